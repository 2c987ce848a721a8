/- The walk of an act of WalPlays: Append. -/
import Derived.Test.YtjnjcjildiadgaaGreatDoorWalPlayDo
namespace Go.Proofs.YtjnjcjildiadgaaGreatDoor.Wl
open Go Go.RowKit Frame Oct Disk
set_option maxRecDepth 100000 in
set_option maxHeartbeats 2000000 in
theorem WDo_append (B p d L b n : Nat) (s : DSt) (l : LSt) (x : WAct) (W w : World) (hc : x.kind.toNat % 6 < 2) (hrs : x.recs.length ≤ 1000000) (hss : ∀ W', Below B W W' → Sg.SS x.ad x.recs W') (hi : LInv n s l) (hv : Inv s) (hT : Crc.Tab W) (hTB : 0 < B) (H : PC B p d L b s l (WCells d p n (canon s) l) W w) :
    Calls Tryz.prog 9 #[.pointer (some ⟨b, 0, none⟩), .agg (aCells x)] w (WDo B d L b n s l x W) := by
  have t2 : ((x.kind.toNat : Int) % 6 == 2) = false := beq_eq_false_iff_ne.2 (by omega)
  have t3 : ((x.kind.toNat : Int) % 6 == 3) = false := beq_eq_false_iff_ne.2 (by omega)
  have t4 : ((x.kind.toNat : Int) % 6 == 4) = false := beq_eq_false_iff_ne.2 (by omega)
  have t5 : ((x.kind.toNat : Int) % 6 == 5) = false := beq_eq_false_iff_ne.2 (by omega)
  have HPL := Lib.hid (play_0 (s := s) (l := l) (h := n / 2) hc)
  clear hc
  have HSS := Lib.hid hss
  clear hss
  have H1 := Lib.hid (H.below ((Below.refl _ _).alloc (Nat.le_refl _) (.cells (aCells x) 40)))
  have HBX := Lib.hid (show Box w.heap.size x (w.alloc (.cells (aCells x) 40)) from Has.new w _ _)
  have HI := Lib.hid hi
  have HV := Lib.hid hv
  have HT := Lib.hid hT
  have HTB := Lib.hid hTB
  clear H hi hv hT hTB
  unfold aCells at H1 HBX ⊢
  have hrm := HI.out.rm
  have hn := HI.out.good.hn
  have HCO := Lib.hid (fun W' (k : Below B W W') (k2 : WD B p d L s l W' W') => Append_calls B p d L n s l HI.out x.ad x.cap x.recs hrs W' W' (tab_bel HT.out HTB.out k) HTB.out k2 (HSS.out _ k))
  have HRC := Lib.hid (fun W' (k : Below B W W') => rAppend_calls (n / 2) l (by omega) (by omega) (by omega) x.ad x.cap x.recs hrs W' (HSS.out _ k))
  have hli := HI.out.append x.recs
  unfold RApp at HRC
  unfold AppPost at HCO
  generalize appendS l (n / 2) x.recs = r3 at *
  obtain ⟨l', r⟩ := r3
  simp only at HPL HCO HRC hli
  have HLI := Lib.hid hli
  clear hli hrm hn
  have HRV := Lib.hid (show ∀ l : LSt, RL (n / 2) l = .agg #[.int .i64 ((n / 2 : Nat) : Int), .int .i64 l.area, .int .u64 (l.gen : Int), .bool l.ready, .bool l.broken, .string (bs l.done), .string (bs l.wait)] from fun l => rfl)
  simp only [HRV.out] at HRC
  obtain ⟨c0, c1, c2, c3, c4, c5, c6, c7, c8, c9, c10, c11, c12, c13, c14⟩ := c15 H1.out.wb
  have k0 := HBX.out.c0
  have k1 := HBX.out.c1
  go_enter Tryz.func9, Tryz.ntmps9
  go_wp2_with fail
  go_region_with (go_at_call 17; refine (HCO.out _ H1.out.drew.i.bel H1.out.drew.i.wd).mono ?_; rintro e w1 ⟨rfl, hwd⟩; have H2 := Lib.hid (H1.out.drew.next (H1.out.drew.i.next hwd) hwd.kept); have HB2 := Lib.hid (show Box w.heap.size x w1 from hwd.kept _ _ _ (by decide) (by decide) (by decide) (by decide) (Has.drew HBX.out)))
  all_goals
    have HS2 := Lib.hid (fun W' (k : Below w1.heap.size w1 W') => H2.out.below k)
    have HRC2 := Lib.hid (fun W' (k : Below w1.heap.size w1 W') => HRC.out W' (H2.out.below k).i.bel)
    clear c0 c1 c2 c3 c4 c5 c6 c7 c8 c9 c10 c11 c12 c13 c14 k0 k1 HCO HRC
    obtain ⟨c0, c1, c2, c3, c4, c5, c6, c7, c8, c9, c10, c11, c12, c13, c14⟩ := c15 H2.out.wb
    have k1 := HB2.out.c1
    have cf := H2.out.wb.frozen
    have HDR := Lib.hid (show Below w1.heap.size w1 w1.drew from (Below.refl _ _).drew)
    go_wp2_with fail
    go_region_with (go_at_call 36; refine (HRC2.out _ HDR.out).mono ?_; rintro e w2 ⟨rfl, b2⟩; have H3 := Lib.hid (H2.out.drew.below b2); obtain ⟨x0, x1, x2, x3, x4, x5, x6, x7, x8, x9, x10, x11, x12, x13, x14⟩ := c15 H3.out.wb; have xf := H3.out.wb.frozen)
    all_goals
      have H4 := Lib.hid (PC.log7 (l1 := l') H3.out)
      rw [show ((n / 2 : Nat) : Int) = (n : Int) / 2 from by omega] at H4
      clear H3 H2 c0 c1 c2 c3 c4 c5 c6 c7 c8 c9 c10 c11 c12 c13 c14 cf x0 x1 x2 x3 x4 x5 x6 x7 x8 x9 x10 x11 x12 x13 x14 xf
      generalize (((((((w2.setCell ⟨b, 8, none⟩ (.int .i64 ((n : Int) / 2))).setCell ⟨b, 9, none⟩ (.int .i64 l'.area)).setCell ⟨b, 10, none⟩ (.int .u64 (l'.gen : Int))).setCell ⟨b, 11, none⟩ (.bool l'.ready)).setCell ⟨b, 12, none⟩ (.bool l'.broken)).setCell ⟨b, 13, none⟩ (.string (bs l'.done))).setCell ⟨b, 14, none⟩ (.string (bs l'.wait))) = w9 at *
      go_wp2_with fail
      go_ret
      exact WDo.mk HPL.out HLI.out HV.out rfl H4.out
end Go.Proofs.YtjnjcjildiadgaaGreatDoor.Wl
