/- The walk of an act of WalPlays: Begin. -/
import Derived.Test.YtjnjcjildiadgaaGreatDoorWalPlayDo
namespace Go.Proofs.YtjnjcjildiadgaaGreatDoor.Wl
open Go Go.RowKit Frame Oct Disk
set_option maxRecDepth 100000 in
set_option maxHeartbeats 4000000 in
theorem WDo_begin (B p d L b n : Nat) (s : DSt) (l : LSt) (x : WAct) (W w : World) (hc : x.kind.toNat % 6 = 3) (hrs : x.recs.length ≤ 1000000) (hss : ∀ W', Below B W W' → Sg.SS x.ad x.recs W') (hi : LInv n s l) (hv : Inv s) (hT : Crc.Tab W) (hTB : 0 < B) (H : PC B p d L b s l (WCells d p n (canon s) l) W w) :
    Calls Tryz.prog 9 #[.pointer (some ⟨b, 0, none⟩), .agg (aCells x)] w (WDo B d L b n s l x W) := by
  have hc' : (x.kind.toNat : Int) % 6 = 3 := by omega
  have HPL := Lib.hid (play_3 (s := s) (l := l) (h := n / 2) hc)
  clear hc
  have HSS := Lib.hid hss
  have HFI := Lib.hid (fun W' (k : Below B W W') => first_calls x W' (hss W' k) (by unfold maxLen; omega))
  clear hss hrs
  have H1 := Lib.hid (H.below ((Below.refl _ _).alloc (Nat.le_refl _) (.cells (aCells x) 40)))
  have HBX := Lib.hid (show Box w.heap.size x (w.alloc (.cells (aCells x) 40)) from Has.new w _ _)
  have HI := Lib.hid hi
  have HV := Lib.hid hv
  have HT := Lib.hid hT
  have HTB := Lib.hid hTB
  clear H hi hv hT hTB
  unfold aCells at H1 HBX ⊢
  unfold aCells at HFI
  have hli := HI.out.begin_ (x.recs.getD 0 [])
  have hvi := begin_inv HI.out HV.out (x.recs.getD 0 [])
  have HCO := Lib.hid (fun W' (k : Below B W W') (k2 : WD B p d L s l W' W') => Begin_calls B p d L n s l HI.out (x.recs.getD 0 []) W' W' (tab_bel HT.out HTB.out k) HTB.out k2)
  have HRC := Lib.hid (fun W' => rBegin_calls n s l (x.recs.getD 0 []) HI.out HV.out W')
  unfold RBeg at HRC
  unfold BegPost at HCO
  generalize x.recs.getD 0 [] = img at *
  generalize beginS s l (n / 2) img = r3 at *
  obtain ⟨s', l', r⟩ := r3
  simp only at HPL HCO HRC hli hvi
  have HLI := Lib.hid hli
  have HVI := Lib.hid hvi
  clear hli hvi
  have HRD := Lib.hid (show ∀ q, RD0 q = .agg #[.string (Oct.bs q.last), .slice none 0 0, .bool q.on, .bool q.armed, .int .i64 q.syncs, .int .i64 q.cut] from fun q => rfl)
  have HRV := Lib.hid (show ∀ l : LSt, RL (n / 2) l = .agg #[.int .i64 ((n / 2 : Nat) : Int), .int .i64 l.area, .int .u64 (l.gen : Int), .bool l.ready, .bool l.broken, .string (bs l.done), .string (bs l.wait)] from fun l => rfl)
  generalize hq1 : canon s' = q1 at *
  have HQ1 := Lib.hid hq1
  clear hq1
  generalize canon s = q0 at *
  simp only [HRD.out, HRV.out] at HRC
  obtain ⟨c0, c1, c2, c3, c4, c5, c6, c7, c8, c9, c10, c11, c12, c13, c14⟩ := c15 H1.out.wb
  have k0 := HBX.out.c0
  have k1 := HBX.out.c1
  have k2 := HBX.out.c2
  have k3 := HBX.out.c3
  go_enter Tryz.func9, Tryz.ntmps9
  go_wp2_with fail
  go_region_held3 (fun w' => w'.cell? ⟨b, 1, none⟩ = some (.pointer (some ⟨p, 0, none⟩)) ∧ w'.cell? ⟨w.heap.size, 0, none⟩ = some (.int .u8 x.kind.toNat) ∧ w'.cell? ⟨w.heap.size, 1, none⟩ = some (.slice x.ad x.recs.length x.cap) ∧ w'.cell? ⟨w.heap.size, 2, none⟩ = some (.int .i64 x.at_) ∧ w'.cell? ⟨w.heap.size, 3, none⟩ = some (.int .i64 x.cut))
    (first | exact ⟨c1, k0, k1, k2, k3⟩ | exact HSa.out | exact HSb.out)
    ((first
      | (go_at_call 28; refine (HFI.out _ H1.out.drew.i.bel).mono ?_; rintro e w1 ⟨rfl, b1⟩; have H2 := Lib.hid (H1.out.drew.below b1); have HB2 := Lib.hid (show Box w.heap.size x w1 from Has.below (Has.drew HBX.out) b1); have HSa := Lib.hid (show w1.cell? ⟨b, 1, none⟩ = some (.pointer (some ⟨p, 0, none⟩)) ∧ w1.cell? ⟨w.heap.size, 0, none⟩ = some (.int .u8 x.kind.toNat) ∧ w1.cell? ⟨w.heap.size, 1, none⟩ = some (.slice x.ad x.recs.length x.cap) ∧ w1.cell? ⟨w.heap.size, 2, none⟩ = some (.int .i64 x.at_) ∧ w1.cell? ⟨w.heap.size, 3, none⟩ = some (.int .i64 x.cut) from ⟨(c15 H2.out.wb).2.1, HB2.out.c0, HB2.out.c1, HB2.out.c2, HB2.out.c3⟩); clear b1)
      | (go_at_call 16; refine (HCO.out _ H2.out.i.bel H2.out.i.wd).mono ?_; rintro e w2 ⟨rfl, hwd⟩; have H3 := Lib.hid (H2.out.next (H2.out.i.next hwd) hwd.kept); have HB3 := Lib.hid (show Box w.heap.size x w2 from hwd.kept _ _ _ (by decide) (by decide) (by decide) (by decide) HB2.out); have HSb := Lib.hid (show w2.cell? ⟨b, 1, none⟩ = some (.pointer (some ⟨p, 0, none⟩)) ∧ w2.cell? ⟨w.heap.size, 0, none⟩ = some (.int .u8 x.kind.toNat) ∧ w2.cell? ⟨w.heap.size, 1, none⟩ = some (.slice x.ad x.recs.length x.cap) ∧ w2.cell? ⟨w.heap.size, 2, none⟩ = some (.int .i64 x.at_) ∧ w2.cell? ⟨w.heap.size, 3, none⟩ = some (.int .i64 x.cut) from ⟨(c15 H3.out.wb).2.1, HB3.out.c0, HB3.out.c1, HB3.out.c2, HB3.out.c3⟩); clear hwd)))
  clear c0 c1 c2 c3 c4 c5 c6 c7 c8 c9 c10 c11 c12 c13 c14 k0 k1 k2 k3 H2 HB2 H1 HBX HSa HSb
  obtain ⟨c0, c1, c2, c3, c4, c5, c6, c7, c8, c9, c10, c11, c12, c13, c14⟩ := c15 H3.out.wb
  have k0 := HB3.out.c0
  have k1 := HB3.out.c1
  have k2 := HB3.out.c2
  have k3 := HB3.out.c3
  have cf := H3.out.wb.frozen
  go_wp2_with fail
  go_region_with (first
    | (go_at_call 28; refine (HFI.out _ H3.out.drew.i.bel).mono ?_; rintro e w3 ⟨rfl, b3⟩; have H4 := Lib.hid (H3.out.drew.below b3); obtain ⟨x0, x1, x2, x3, x4, x5, x6, x7, x8, x9, x10, x11, x12, x13, x14⟩ := c15 H4.out.wb; have xf := H4.out.wb.frozen)
    | (go_at_call 29; refine (HRC.out _).mono ?_; rintro e w4 ⟨rfl, b4⟩; have H5 := Lib.hid (H4.out.below b4); obtain ⟨z0, z1, z2, z3, z4, z5, z6, z7, z8, z9, z10, z11, z12, z13, z14⟩ := c15 H5.out.wb; have zf := H5.out.wb.frozen))
  all_goals
    have H6 := Lib.hid (PC.log7 (l1 := l') (PC.disk6 (q := q1) H5.out))
    rw [show ((n / 2 : Nat) : Int) = (n : Int) / 2 from by omega] at H6
    clear H4 H3 H5 c0 c1 c2 c3 c4 c5 c6 c7 c8 c9 c10 c11 c12 c13 c14 cf x0 x1 x2 x3 x4 x5 x6 x7 x8 x9 x10 x11 x12 x13 x14 xf z0 z1 z2 z3 z4 z5 z6 z7 z8 z9 z10 z11 z12 z13 z14 zf
    generalize (((((((((((((w4.setCell ⟨b, 2, none⟩ (.string (bs q1.last))).setCell ⟨b, 3, none⟩ (.slice none 0 0)).setCell ⟨b, 4, none⟩ (.bool q1.on)).setCell ⟨b, 5, none⟩ (.bool q1.armed)).setCell ⟨b, 6, none⟩ (.int .i64 q1.syncs)).setCell ⟨b, 7, none⟩ (.int .i64 q1.cut)).setCell ⟨b, 8, none⟩ (.int .i64 ((n : Int) / 2))).setCell ⟨b, 9, none⟩ (.int .i64 l'.area)).setCell ⟨b, 10, none⟩ (.int .u64 (l'.gen : Int))).setCell ⟨b, 11, none⟩ (.bool l'.ready)).setCell ⟨b, 12, none⟩ (.bool l'.broken)).setCell ⟨b, 13, none⟩ (.string (bs l'.done))).setCell ⟨b, 14, none⟩ (.string (bs l'.wait))) = w9 at *
    go_wp2_with fail
    go_ret
    exact WDo.mk HPL.out HLI.out HVI.out HQ1.out H6.out
end Go.Proofs.YtjnjcjildiadgaaGreatDoor.Wl
