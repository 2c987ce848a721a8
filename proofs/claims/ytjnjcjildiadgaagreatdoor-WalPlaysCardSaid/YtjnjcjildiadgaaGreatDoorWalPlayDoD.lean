/- The walk of an act of WalPlays: the power goes, and comes again. -/
import Derived.Test.YtjnjcjildiadgaaGreatDoorWalPlayDo
namespace Go.Proofs.YtjnjcjildiadgaaGreatDoor.Wl
open Go Go.RowKit Frame Oct Disk
theorem rdown_wait (q : DSt) (hw : q.wait = []) (c : Int) : (rdown q c).wait = [] := by unfold rdown; split; rfl; exact hw
set_option maxRecDepth 100000 in
set_option maxHeartbeats 2000000 in
theorem WDo_down (B p d L b n : Nat) (s : DSt) (l : LSt) (x : WAct) (W w : World) (hc : x.kind.toNat % 6 = 5) (hok : x.Ok) (hi : LInv n s l) (hv : Inv s) (hT : Crc.Tab W) (hTB : 0 < B) (H : PC B p d L b s l (WCells d p n (canon s) l) W w) :
    Calls Tryz.prog 9 #[.pointer (some ⟨b, 0, none⟩), .agg (aCells x)] w (WDo B d L b n s l x W) := by
  have hc' : (x.kind.toNat : Int) % 6 = 5 := by omega
  have HPL := Lib.hid (play_5 (s := s) (l := l) (h := n / 2) hc)
  clear hc
  have H1 := Lib.hid (H.below ((Below.refl _ _).alloc (Nat.le_refl _) (.cells (aCells x) 40)))
  have HBX := Lib.hid (show Box w.heap.size x (w.alloc (.cells (aCells x) 40)) from Has.new w _ _)
  have HI := Lib.hid hi
  have HV := Lib.hid hv
  have HT := Lib.hid hT
  have HTB := Lib.hid hTB
  clear H hi hv hT hTB
  unfold aCells at H1 HBX ⊢
  have HOK := Lib.hid hok
  have hcw : (canon s).wait = [] := by rw [canon_wait]; exact HI.out.wait
  have HRC := Lib.hid (fun W' => rDown0_calls n (canon s) hcw x.cut hok.2.1 HI.out.good.canon W')
  have HRU := Lib.hid (fun W' => rUp0_calls (rdown (canon s) x.cut) (rdown_wait _ hcw _) W')
  obtain ⟨g1, g2, g3, g4, g5⟩ := anew_out HI.out.good HI.out.wait x.cut
  obtain ⟨e4, hvi⟩ := canon_anew HV.out x.cut
  have HLI := Lib.hid (show LInv n (anew s x.cut) (openL (n / 2) (anew s x.cut).last) from openL_inv g2 g3 HI.out.four)
  have HVI := Lib.hid hvi
  have HQ := Lib.hid (show canon (anew s x.cut) = anew s x.cut from canon_on g4)
  rw [HQ.out] at e4
  have HAN := Lib.hid e4
  have HWO := Lib.hid (fun W' (k : Below B W W') (k2 : One B d L (anew s x.cut) W') (k3 : B ≤ b) m0 m1 m2 m3 m4 m5 m6 => WOpen_calls B d L b n (anew s x.cut) g2 g3 g4 HI.out.four (.pointer (some ⟨p, 0, none⟩)) m0 m1 m2 m3 m4 m5 m6 W W' HT.out HTB.out k k2 k3)
  clear g1 g2 g3 g4 g5 hvi e4 hcw hok
  have HRD := Lib.hid (show ∀ q, RD0 q = .agg #[.string (Oct.bs q.last), .slice none 0 0, .bool q.on, .bool q.armed, .int .i64 q.syncs, .int .i64 q.cut] from fun q => rfl)
  rw [← HAN.out] at HRU
  simp only [HRD.out] at HRC HRU
  obtain ⟨c0, c1, c2, c3, c4, c5, c6, c7, c8, c9, c10, c11, c12, c13, c14⟩ := c15 H1.out.wb
  have k0 := HBX.out.c0
  have k3 := HBX.out.c3
  go_enter Tryz.func9, Tryz.ntmps9
  go_wp2_with fail
  go_region_held3 (fun w' => w'.cell? ⟨b, 0, none⟩ = some (.pointer (some ⟨d, 0, none⟩)) ∧ w'.cell? ⟨w.heap.size, 3, none⟩ = some (.int .i64 x.cut))
    (first | exact ⟨c0, k3⟩ | exact HS.out)
    ((go_at_call 32; refine (H1.out.drew.i.one.calls fun v hd => Down_calls B d L n v s x.cut HOK.out.2.1 HI.out.good _ hd).mono ?_; rintro e w1 ⟨rfl, o6, b6, k6⟩; have HO6 := Lib.hid o6; have HW6 := Lib.hid (H1.out.drew.i.wd.disk o6 b6 k6); have H2 := Lib.hid (H1.out.drew.next (H1.out.drew.i.next HW6.out) (Kept2.of_kept k6)); have HB2 := Lib.hid (show Box w.heap.size x w1 from Kept2.of_kept k6 _ _ _ (by decide) (by decide) (by decide) (by decide) (Has.drew HBX.out)); have HS := Lib.hid (show w1.cell? ⟨b, 0, none⟩ = some (.pointer (some ⟨d, 0, none⟩)) ∧ w1.cell? ⟨w.heap.size, 3, none⟩ = some (.int .i64 x.cut) from ⟨(c15 H2.out.wb).1, HB2.out.c3⟩); clear o6 b6 k6))
  clear c0 c1 c2 c3 c4 c5 c6 c7 c8 c9 c10 c11 c12 c13 c14 k0 k3
  obtain ⟨c0, -⟩ := c15 H2.out.wb
  go_wp2_with fail
  refine (HO6.out.calls fun v hd => (Up_calls B d L v (down s x.cut) _ hd).mono fun e w' hq => post_of_only hq.1 hq.2.1 hq.2.2).mono ?_
  rintro e w2 ⟨rfl, o7, b7, k7⟩
  have H3 := Lib.hid (show PC B p d L b (anew s x.cut) l (WCells d p n (canon s) l) W w2 from H2.out.next (H2.out.i.next (H2.out.i.wd.disk o7 b7 k7)) (Kept2.of_kept k7))
  have HB3 := Lib.hid (show Box w.heap.size x w2 from Kept2.of_kept k7 _ _ _ (by decide) (by decide) (by decide) (by decide) HB2.out)
  clear o7 b7 k7 c0 H2 HB2 HO6 HW6 HS
  obtain ⟨c0, c1, c2, c3, c4, c5, c6, c7, c8, c9, c10, c11, c12, c13, c14⟩ := c15 H3.out.wb
  have k3 := HB3.out.c3
  have cf := H3.out.wb.frozen
  generalize canon s = q0 at *
  generalize anew s x.cut = q1 at *
  generalize rdown q0 x.cut = q2 at *
  go_wp2_with fail
  go_region_with (first
    | (go_at_call 35; refine (HRC.out _).mono ?_; rintro e w3 ⟨rfl, b3⟩; have H4 := Lib.hid (H3.out.drew.below b3); obtain ⟨x0, x1, x2, x3, x4, x5, x6, x7, x8, x9, x10, x11, x12, x13, x14⟩ := c15 H4.out.wb; have xf := H4.out.wb.frozen)
    | (go_at_call 34; refine (HRU.out _).mono ?_; rintro e w4 ⟨rfl, b4⟩; have H5 := Lib.hid (H4.out.below b4); obtain ⟨z0, z1, z2, z3, z4, z5, z6, z7, z8, z9, z10, z11, z12, z13, z14⟩ := c15 H5.out.wb; have zf := H5.out.wb.frozen))
  all_goals
    have H6 := Lib.hid (PC.disk6 (q := q1) H5.out)
    clear H4 H3 H5 c0 c1 c2 c3 c4 c5 c6 c7 c8 c9 c10 c11 c12 c13 c14 cf x0 x1 x2 x3 x4 x5 x6 x7 x8 x9 x10 x11 x12 x13 x14 xf z0 z1 z2 z3 z4 z5 z6 z7 z8 z9 z10 z11 z12 z13 z14 zf
    generalize ((((((w4.setCell ⟨b, 2, none⟩ (.string (bs q1.last))).setCell ⟨b, 3, none⟩ (.slice none 0 0)).setCell ⟨b, 4, none⟩ (.bool q1.on)).setCell ⟨b, 5, none⟩ (.bool q1.armed)).setCell ⟨b, 6, none⟩ (.int .i64 q1.syncs)).setCell ⟨b, 7, none⟩ (.int .i64 q1.cut)) = w9 at *
    go_wp2_with fail
    refine (HWO.out _ H6.out.i.bel H6.out.i.one H6.out.hb _ _ _ _ _ _ _ H6.out.wb).mono ?_
    rintro e w5 ⟨rfl, p5, h5⟩
    have H7 := Lib.hid h5
    clear h5
    go_wp2_with fail
    go_ret
    exact WDo.mk HPL.out HLI.out HVI.out HQ.out H7.out
end Go.Proofs.YtjnjcjildiadgaaGreatDoor.Wl
