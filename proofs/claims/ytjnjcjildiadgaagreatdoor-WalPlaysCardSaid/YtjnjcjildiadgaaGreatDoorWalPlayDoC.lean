/- The walk of an act of WalPlays: Commit. -/
import Derived.Test.YtjnjcjildiadgaaGreatDoorWalPlayDo
namespace Go.Proofs.YtjnjcjildiadgaaGreatDoor.Wl
open Go Go.RowKit Frame Oct Disk
set_option maxRecDepth 100000 in
set_option maxHeartbeats 2000000 in
theorem WDo_commit (B p d L b n : Nat) (s : DSt) (l : LSt) (x : WAct) (W w : World) (hc : x.kind.toNat % 6 = 2) (hi : LInv n s l) (hv : Inv s) (hT : Crc.Tab W) (hTB : 0 < B) (H : PC B p d L b s l (WCells d p n (canon s) l) W w) :
    Calls Tryz.prog 9 #[.pointer (some ⟨b, 0, none⟩), .agg (aCells x)] w (WDo B d L b n s l x W) := by
  have hc' : (x.kind.toNat : Int) % 6 = 2 := by omega
  have HPL := Lib.hid (play_2 (s := s) (l := l) (h := n / 2) hc)
  clear hc
  have H1 := Lib.hid (H.below ((Below.refl _ _).alloc (Nat.le_refl _) (.cells (aCells x) 40)))
  have HBX := Lib.hid (show Box w.heap.size x (w.alloc (.cells (aCells x) 40)) from Has.new w _ _)
  have HI := Lib.hid hi
  have HV := Lib.hid hv
  have HT := Lib.hid hT
  have HTB := Lib.hid hTB
  clear H hi hv hT hTB
  unfold aCells at H1 HBX ⊢
  have HCO := Lib.hid (fun W' (k : WD B p d L s l W' W') => Commit_calls B p d L n s l HI.out W' W' k)
  have HRC := Lib.hid (fun W' => rCommit_calls n s l HI.out HV.out W')
  have hli := HI.out.commit
  have hvi := commit_inv HI.out HV.out
  unfold RCom at HRC
  unfold ComPost at HCO
  generalize commitS s l (n / 2) = r3 at *
  obtain ⟨s', l', r⟩ := r3
  simp only at HPL HCO HRC hli hvi
  have HLI := Lib.hid hli
  have HVI := Lib.hid hvi
  clear hli hvi
  obtain ⟨c0, c1, c2, c3, c4, c5, c6, c7, c8, c9, c10, c11, c12, c13, c14⟩ := c15 H1.out.wb
  have k0 := HBX.out.c0
  go_enter Tryz.func9, Tryz.ntmps9
  go_wp2_with fail
  refine (HCO.out _ H1.out.i.wd).mono ?_
  rintro e w1 ⟨rfl, hwd⟩
  have H2 := Lib.hid (H1.out.next (H1.out.i.next hwd) hwd.kept)
  clear hwd c0 c1 c2 c3 c4 c5 c6 c7 c8 c9 c10 c11 c12 c13 c14 k0
  have HRD := Lib.hid (show ∀ q, RD0 q = .agg #[.string (Oct.bs q.last), .slice none 0 0, .bool q.on, .bool q.armed, .int .i64 q.syncs, .int .i64 q.cut] from fun q => rfl)
  have HRV := Lib.hid (show ∀ l : LSt, RL (n / 2) l = .agg #[.int .i64 ((n / 2 : Nat) : Int), .int .i64 l.area, .int .u64 (l.gen : Int), .bool l.ready, .bool l.broken, .string (bs l.done), .string (bs l.wait)] from fun l => rfl)
  generalize hq1 : canon s' = q1 at *
  have HQ1 := Lib.hid hq1
  clear hq1
  generalize canon s = q0 at *
  simp only [HRD.out, HRV.out] at HRC
  obtain ⟨c0, c1, c2, c3, c4, c5, c6, c7, c8, c9, c10, c11, c12, c13, c14⟩ := c15 H2.out.wb
  have cf := H2.out.wb.frozen
  go_wp2_with fail
  go_region_with (go_at_call 27; refine (HRC.out _).mono ?_; rintro e w2 ⟨rfl, b2⟩; have H3 := Lib.hid (H2.out.drew.below b2); obtain ⟨x0, x1, x2, x3, x4, x5, x6, x7, x8, x9, x10, x11, x12, x13, x14⟩ := c15 H3.out.wb; have xf := H3.out.wb.frozen)
  all_goals
    have H4 := Lib.hid (PC.log7 (l1 := l') (PC.disk6 (q := q1) H3.out))
    rw [show ((n / 2 : Nat) : Int) = (n : Int) / 2 from by omega] at H4
    clear H3 H2 c0 c1 c2 c3 c4 c5 c6 c7 c8 c9 c10 c11 c12 c13 c14 cf x0 x1 x2 x3 x4 x5 x6 x7 x8 x9 x10 x11 x12 x13 x14 xf
    generalize (((((((((((((w2.setCell ⟨b, 2, none⟩ (.string (bs q1.last))).setCell ⟨b, 3, none⟩ (.slice none 0 0)).setCell ⟨b, 4, none⟩ (.bool q1.on)).setCell ⟨b, 5, none⟩ (.bool q1.armed)).setCell ⟨b, 6, none⟩ (.int .i64 q1.syncs)).setCell ⟨b, 7, none⟩ (.int .i64 q1.cut)).setCell ⟨b, 8, none⟩ (.int .i64 ((n : Int) / 2))).setCell ⟨b, 9, none⟩ (.int .i64 l'.area)).setCell ⟨b, 10, none⟩ (.int .u64 (l'.gen : Int))).setCell ⟨b, 11, none⟩ (.bool l'.ready)).setCell ⟨b, 12, none⟩ (.bool l'.broken)).setCell ⟨b, 13, none⟩ (.string (bs l'.done))).setCell ⟨b, 14, none⟩ (.string (bs l'.wait))) = w9 at *
    go_wp2_with fail
    go_ret
    exact WDo.mk HPL.out HLI.out HVI.out HQ1.out H4.out
end Go.Proofs.YtjnjcjildiadgaaGreatDoor.Wl
