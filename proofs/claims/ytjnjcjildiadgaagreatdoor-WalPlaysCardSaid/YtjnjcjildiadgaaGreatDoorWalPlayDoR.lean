/- The walk of an act of WalPlays: Arm. -/
import Derived.Test.YtjnjcjildiadgaaGreatDoorWalPlayDo
namespace Go.Proofs.YtjnjcjildiadgaaGreatDoor.Wl
open Go Go.RowKit Frame Oct Disk
set_option maxRecDepth 100000 in
set_option maxHeartbeats 2000000 in
theorem WDo_arm (B p d L b n : Nat) (s : DSt) (l : LSt) (x : WAct) (W w : World) (hc : x.kind.toNat % 6 = 4) (hok : x.Ok) (hi : LInv n s l) (hv : Inv s) (hT : Crc.Tab W) (hTB : 0 < B) (H : PC B p d L b s l (WCells d p n (canon s) l) W w) :
    Calls Tryz.prog 9 #[.pointer (some ⟨b, 0, none⟩), .agg (aCells x)] w (WDo B d L b n s l x W) := by
  have hc' : (x.kind.toNat : Int) % 6 = 4 := by omega
  have HPL := Lib.hid (play_4 (s := s) (l := l) (h := n / 2) hc)
  clear hc
  have H1 := Lib.hid (H.below ((Below.refl _ _).alloc (Nat.le_refl _) (.cells (aCells x) 40)))
  have HBX := Lib.hid (show Box w.heap.size x (w.alloc (.cells (aCells x) 40)) from Has.new w _ _)
  have HI := Lib.hid hi
  have HV := Lib.hid hv
  have HT := Lib.hid hT
  have HTB := Lib.hid hTB
  clear H hi hv hT hTB
  unfold aCells at H1 HBX ⊢
  have hcw : (canon s).wait = [] := by rw [canon_wait]; exact HI.out.wait
  have HRC := Lib.hid (fun W' => rArm0_calls (canon s) hcw x.at_ x.cut W')
  obtain ⟨e1, e2, e3⟩ := armed_same s x.at_ x.cut
  have HLI := Lib.hid (show LInv n (armed s x.at_ x.cut) l from ⟨armed_good HI.out.good _ _ hok.1.2 hok.2.1.2, by rw [e2]; exact HI.out.wait, HI.out.four, HI.out.area, HI.out.gen, HI.out.rm, HI.out.ready⟩)
  obtain ⟨e4, hvi⟩ := canon_arm s x.at_ x.cut HV.out
  have HVI := Lib.hid hvi
  have HQ := Lib.hid e4
  clear hvi e1 e2 e3 e4 hcw hok
  have HRD := Lib.hid (show ∀ q, RD0 q = .agg #[.string (Oct.bs q.last), .slice none 0 0, .bool q.on, .bool q.armed, .int .i64 q.syncs, .int .i64 q.cut] from fun q => rfl)
  simp only [HRD.out] at HRC
  obtain ⟨c0, c1, c2, c3, c4, c5, c6, c7, c8, c9, c10, c11, c12, c13, c14⟩ := c15 H1.out.wb
  have k0 := HBX.out.c0
  have k2 := HBX.out.c2
  have k3 := HBX.out.c3
  go_enter Tryz.func9, Tryz.ntmps9
  go_wp2_with fail
  go_region_held3 (fun w' => w'.cell? ⟨b, 0, none⟩ = some (.pointer (some ⟨d, 0, none⟩)) ∧ w'.cell? ⟨w.heap.size, 2, none⟩ = some (.int .i64 x.at_) ∧ w'.cell? ⟨w.heap.size, 3, none⟩ = some (.int .i64 x.cut))
    (first | exact ⟨c0, k2, k3⟩ | exact HS.out)
    ((go_at_call 30; refine (H1.out.drew.i.one.calls fun v hd => (Arm_calls B d L v s x.at_ x.cut _ hd).mono fun e w' hq => post_of_only hq.1 hq.2.1 hq.2.2).mono ?_; rintro e w1 ⟨rfl, o6, b6, k6⟩; have H2 := Lib.hid (H1.out.drew.next (H1.out.drew.i.next (H1.out.drew.i.wd.disk o6 b6 k6)) (Kept2.of_kept k6)); have HB2 := Lib.hid (show Box w.heap.size x w1 from Kept2.of_kept k6 _ _ _ (by decide) (by decide) (by decide) (by decide) (Has.drew HBX.out)); have HS := Lib.hid (show w1.cell? ⟨b, 0, none⟩ = some (.pointer (some ⟨d, 0, none⟩)) ∧ w1.cell? ⟨w.heap.size, 2, none⟩ = some (.int .i64 x.at_) ∧ w1.cell? ⟨w.heap.size, 3, none⟩ = some (.int .i64 x.cut) from ⟨(c15 H2.out.wb).1, HB2.out.c2, HB2.out.c3⟩); clear o6 b6 k6))
  all_goals
    clear c0 c1 c2 c3 c4 c5 c6 c7 c8 c9 c10 c11 c12 c13 c14 k0 k2 k3
    obtain ⟨c0, c1, c2, c3, c4, c5, c6, c7, c8, c9, c10, c11, c12, c13, c14⟩ := c15 H2.out.wb
    have k2 := HB2.out.c2
    have k3 := HB2.out.c3
    have cf := H2.out.wb.frozen
    generalize hq0 : canon s = q0 at *
    have HQ0 := Lib.hid hq0
    clear hq0
    generalize armed q0 x.at_ x.cut = q1 at *
    go_wp2_with fail
    go_region_with (go_at_call 31; refine (HRC.out _).mono ?_; rintro e w2 ⟨rfl, b2⟩; have H3 := Lib.hid (H2.out.drew.below b2); obtain ⟨x0, x1, x2, x3, x4, x5, x6, x7, x8, x9, x10, x11, x12, x13, x14⟩ := c15 H3.out.wb; have xf := H3.out.wb.frozen)
    all_goals
      have H4 := Lib.hid (PC.disk6 (q := q1) H3.out)
      clear H3 H2 c0 c1 c2 c3 c4 c5 c6 c7 c8 c9 c10 c11 c12 c13 c14 cf x0 x1 x2 x3 x4 x5 x6 x7 x8 x9 x10 x11 x12 x13 x14 xf
      generalize ((((((w2.setCell ⟨b, 2, none⟩ (.string (bs q1.last))).setCell ⟨b, 3, none⟩ (.slice none 0 0)).setCell ⟨b, 4, none⟩ (.bool q1.on)).setCell ⟨b, 5, none⟩ (.bool q1.armed)).setCell ⟨b, 6, none⟩ (.int .i64 q1.syncs)).setCell ⟨b, 7, none⟩ (.int .i64 q1.cut)) = w9 at *
      go_wp2_with fail
      go_ret
      exact WDo.mk HPL.out HLI.out HVI.out HQ.out H4.out
end Go.Proofs.YtjnjcjildiadgaaGreatDoor.Wl
