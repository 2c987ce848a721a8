/- The walks of the document's disk: Sync. -/
import Derived.Test.YtopacbmdoognjaaDiskRefC
import Derived.Deep.RegionWith
namespace Go.Proofs.Ytopacbmdoognjaa.Disk
open Go Go.RowKit Frame
theorem RW.apart {v : Value} {ws : List Wr} {w : World} (h : RW v ws w) {b : Nat} {cs : Array Value} {t : TypeId} (hb : Has b cs t w) (hne : t ≠ 127) : v.ownBlock ≠ some b := by
  rcases h.1.2 with ⟨rfl, _⟩ | ⟨g, cap, cur, rfl, _, hg, _⟩
  · simp [Value.ownBlock]
  · intro e
    simp [Value.ownBlock] at e
    subst e
    exact hne (has_type hb hg)
theorem RW.set6 {v : Value} {ws : List Wr} {w : World} {b : Nat} (h : RW v ws w) (hb : v.ownBlock ≠ some b) (v0 v1 v2 v3 v4 v5 : Value) :
    RW v ws ((((((w.setCell ⟨b, 0, none⟩ v0).setCell ⟨b, 1, none⟩ v1).setCell ⟨b, 2, none⟩ v2).setCell ⟨b, 3, none⟩ v3).setCell ⟨b, 4, none⟩ v4).setCell ⟨b, 5, none⟩ v5) := by
  refine ⟨?_, h.2⟩
  exact ownsRow_setCell_other (ownsRow_setCell_other (ownsRow_setCell_other (ownsRow_setCell_other (ownsRow_setCell_other (ownsRow_setCell_other h.1 (a := ⟨b, 0, none⟩) hb v0) (a := ⟨b, 1, none⟩) hb v1) (a := ⟨b, 2, none⟩) hb v2) (a := ⟨b, 3, none⟩) hb v3) (a := ⟨b, 4, none⟩) hb v4) (a := ⟨b, 5, none⟩) hb v5
def rsync (s : DSt) : DSt × Int :=
  if s.on then (if s.armed && s.syncs == 0 then (rdown s s.cut, 16) else ({ s with last := all s.last s.wait, wait := [], syncs := if s.armed then s.syncs - 1 else s.syncs }, 0)) else (s, 16)
theorem rsync_off (s : DSt) (h : s.on = false) : rsync s = (s, 16) := by simp [rsync, h]
theorem rsync_gone (s : DSt) (h : s.on = true) (ha : s.armed = true) (hz : s.syncs = 0) : rsync s = (rdown s s.cut, 16) := by simp [rsync, h, ha, hz]
theorem rsync_armed (s : DSt) (h : s.on = true) (ha : s.armed = true) (hz : s.syncs ≠ 0) : rsync s = (⟨all s.last s.wait, [], s.on, s.armed, s.syncs - 1, s.cut⟩, 0) := by simp [rsync, h, ha, hz]
theorem rsync_not (s : DSt) (h : s.on = true) (ha : s.armed = false) : rsync s = (⟨all s.last s.wait, [], s.on, s.armed, s.syncs, s.cut⟩, 0) := by simp [rsync, h, ha]
theorem zero_has (w : World) (cs : Array Value) : Has (w.heap.size + 1) zeroR 63 ((w.alloc (.cells cs 63)).alloc (.cells zeroR 63)) := by
  have := Has.new (w.alloc (.cells cs 63)) zeroR 63
  simpa using this
theorem first_has (w : World) (cs : Array Value) (o : Obj) : Has w.heap.size cs 63 ((w.alloc (.cells cs 63)).alloc o) := (Has.new _ _ _).alloc _
set_option maxRecDepth 100000 in
set_option maxHeartbeats 4000000 in
theorem rSync_gone (n : Nat) (last : List UInt8) (ws : List Wr) (ct : Int) (v : Value) (hs : Good n ⟨last, ws, true, true, 0, ct⟩) (w : World) (hr : RW v ws w) :
    Calls Try.prog 78 #[RD ⟨last, ws, true, true, 0, ct⟩ v] w (RPost2 (rdown ⟨last, ws, true, true, 0, ct⟩ ct) 16 w) := by
  obtain ⟨A, cap, rfl, -⟩ := hr.row
  have hcr : -9223372036854775808 ≤ ct ∧ ct ≤ 9223372036854775807 := by have h := hs.cut; simp only at h; omega
  have HR := Lib.hid hr
  have HG := Lib.hid hs
  clear hr hs
  have HD := Lib.hid (fun W h => rDown_calls n ⟨last, ws, true, true, 0, ct⟩ (.slice A ws.length cap) ct hcr HG.out W h)
  have HB := Lib.hid (below2 w (.cells (RCells ⟨last, ws, true, true, 0, ct⟩ (.slice A ws.length cap)) 63) (.cells zeroR 63))
  have HN := Lib.hid (zero_has w (RCells ⟨last, ws, true, true, 0, ct⟩ (.slice A ws.length cap)))
  have HR2 := Lib.hid (HR.out.below HB.out)
  unfold RD at HD ⊢
  unfold RCells zeroR at HB HN HR2
  simp only at HD HB HN HR2 ⊢
  go_enter Try.func78, Try.ntmps78
  go_wp2_with fail
  refine (HD.out _ HR2.out).mono ?_
  rintro e w2 ⟨v2, rfl, r2, b2⟩
  obtain ⟨A2, cap2, rfl, -⟩ := r2.row
  have hn := HN.out.below b2
  have f := hn.frozen
  have c0 := hn.cell 0
  have c1 := hn.cell 1
  have c2 := hn.cell 2
  have c3 := hn.cell 3
  have c4 := hn.cell 4
  have c5 := hn.cell 5
  have hz := hn.lt
  have B := Lib.hid (bthen HB.out b2)
  have R2 := Lib.hid r2
  have hne := Lib.hid (r2.apart hn (by decide))
  clear b2 hn r2
  unfold RD
  generalize rdown ⟨last, ws, true, true, 0, ct⟩ ct = s2 at *
  go_wp2_with fail
  refine bodyPost_ret (v := .tuple #[RD s2 (.slice A2 s2.wait.length cap2), .int .i64 16]) (by simp [results, Try.results78, go_sem, RD, c0, c1, c2, c3, c4, c5]) rfl ?_
  refine ⟨_, rfl, ?_, below6 B.out (by omega) _ _ _ _ _ _⟩
  exact R2.out.set6 hne.out _ _ _ _ _ _
set_option maxRecDepth 100000 in
set_option maxHeartbeats 4000000 in
theorem rSync_on (n : Nat) (last : List UInt8) (ws : List Wr) (ar : Bool) (sy ct : Int) (v : Value) (hs : Good n ⟨last, ws, true, ar, sy, ct⟩) (hy : ar = true → sy ≠ 0) (sy' : Int) (hm : sy' = if ar then sy - 1 else sy) (w : World) (hr : RW v ws w) :
    Calls Try.prog 78 #[RD ⟨last, ws, true, ar, sy, ct⟩ v] w (RPost2 ⟨all last ws, [], true, ar, sy', ct⟩ 0 w) := by
  obtain ⟨A, cap, rfl, -⟩ := hr.row
  have hsy : 0 ≤ sy ∧ sy ≤ 9223372036854775807 := hs.syncs
  have htl := total_le n ws hs.fits
  have hmn : ws.length ≤ 100000 := hs.many
  have HR := Lib.hid hr
  have HG := Lib.hid hs
  clear hr hs
  have HX := Lib.hid (show Oct.bs (done last ws (total ws)) = Oct.bs (all last ws) by rw [done_all _ _ _ (Int.le_refl _)])
  cases ar with
  | true =>
    have hz : (sy == 0) = false := by have := hy rfl; simpa using this
    have hz2 : sy ≠ 0 := hy rfl
    obtain rfl : sy' = sy - 1 := by simpa using hm
    clear hm
    have HD := Lib.hid (fun W h => Done_calls n ⟨last, ws, true, true, sy - 1, ct⟩ (.slice A ws.length cap) (total ws) ⟨by omega, by omega⟩ HG.out.fits hmn HG.out.len HG.out.hn W h)
    have HW := Lib.hid (fun W h => rWaits_calls n ⟨last, ws, true, true, sy - 1, ct⟩ (.slice A ws.length cap) HG.out.fits hmn W h)
    have HB := Lib.hid (below2 w (.cells (RCells ⟨last, ws, true, true, sy - 1, ct⟩ (.slice A ws.length cap)) 63) (.cells zeroR 63))
    have HN := Lib.hid (zero_has w (RCells ⟨last, ws, true, true, sy - 1, ct⟩ (.slice A ws.length cap)))
    have HN1 := Lib.hid (first_has w (RCells ⟨last, ws, true, true, sy - 1, ct⟩ (.slice A ws.length cap)) (.cells zeroR 63))
    have HR2 := Lib.hid (HR.out.below HB.out)
    clear hy htl hmn
    unfold RD at HD HW ⊢
    unfold RCells zeroR at HB HN HN1 HR2
    simp only at HD HW HB HN HN1 HR2 ⊢
    go_enter Try.func78, Try.ntmps78
    go_wp2_with fail
    go_region_with
      (first
        | (go_at_call 53; refine (HW.out _ (HR2.out.below (Below.drew (Below.refl _ _)))).mono ?_; rintro e w2 ⟨rfl, b2⟩;
           have b2 := (Below.drew (Below.refl _ _)).trans b2; have h2 := HN1.out.below b2; have c0 := h2.cell 0; have c1 := h2.cell 1; have c2 := h2.cell 2; have c3 := h2.cell 3; have c4 := h2.cell 4; have c5 := h2.cell 5; have f2 := h2.frozen; clear h2)
        | (go_at_call 94; refine (HD.out _ ((HR2.out.below b2).below (Below.refl _ _))).mono ?_; rintro e w3 ⟨rfl, b3⟩;
           have h3 := (HN1.out.below b2).below b3; have k0 := h3.cell 0; have k1 := h3.cell 1; have k2 := h3.cell 2; have k3 := h3.cell 3; have k4 := h3.cell 4; have k5 := h3.cell 5; have f3 := h3.frozen; clear h3; have h4 := (HN.out.below b2).below b3; have z0 := h4.cell 0; have z1 := h4.cell 1; have z2 := h4.cell 2; have z3 := h4.cell 3; have z4 := h4.cell 4; have z5 := h4.cell 5; have f4 := h4.frozen; have hz4 := h4.lt; clear h4; have B3 := Lib.hid (bthen (bthen HB.out b2) b3); clear b3))
    all_goals
      rw [HX.out]
      go_wp2_with fail
      refine bodyPost_ret (v := .tuple #[RD ⟨all last ws, [], true, true, sy - 1, ct⟩ (.slice none 0 0), .int .i64 0]) (by simp [results, Try.results78, go_sem, RD, z0, z1, z2, z3, z4, z5]) rfl ?_
      exact ⟨_, rfl, RW.nil _, below6 ((B3.out.setCell (p := ⟨w.heap.size, 0, none⟩) (Nat.le_refl _) _).setCell (p := ⟨w.heap.size, 1, none⟩) (Nat.le_refl _) _) (Nat.le_succ _) _ _ _ _ _ _⟩
  | false =>
    obtain rfl : sy' = sy := by simpa using hm
    clear hm
    have HD := Lib.hid (fun W h => Done_calls n ⟨last, ws, true, false, sy', ct⟩ (.slice A ws.length cap) (total ws) ⟨by omega, by omega⟩ HG.out.fits hmn HG.out.len HG.out.hn W h)
    have HW := Lib.hid (fun W h => rWaits_calls n ⟨last, ws, true, false, sy', ct⟩ (.slice A ws.length cap) HG.out.fits hmn W h)
    have HB := Lib.hid (below2 w (.cells (RCells ⟨last, ws, true, false, sy', ct⟩ (.slice A ws.length cap)) 63) (.cells zeroR 63))
    have HN := Lib.hid (zero_has w (RCells ⟨last, ws, true, false, sy', ct⟩ (.slice A ws.length cap)))
    have HN1 := Lib.hid (first_has w (RCells ⟨last, ws, true, false, sy', ct⟩ (.slice A ws.length cap)) (.cells zeroR 63))
    have HR2 := Lib.hid (HR.out.below HB.out)
    clear hy htl hmn
    unfold RD at HD HW ⊢
    unfold RCells zeroR at HB HN HN1 HR2
    simp only at HD HW HB HN HN1 HR2 ⊢
    go_enter Try.func78, Try.ntmps78
    go_wp2_with fail
    go_region_with
      (first
        | (go_at_call 53; refine (HW.out _ (HR2.out.below (Below.drew (Below.refl _ _)))).mono ?_; rintro e w2 ⟨rfl, b2⟩;
           have b2 := (Below.drew (Below.refl _ _)).trans b2; have h2 := HN1.out.below b2; have c0 := h2.cell 0; have c1 := h2.cell 1; have c2 := h2.cell 2; have c3 := h2.cell 3; have c4 := h2.cell 4; have c5 := h2.cell 5; have f2 := h2.frozen; clear h2)
        | (go_at_call 94; refine (HD.out _ ((HR2.out.below b2).below (Below.refl _ _))).mono ?_; rintro e w3 ⟨rfl, b3⟩;
           have h3 := (HN1.out.below b2).below b3; have k0 := h3.cell 0; have k1 := h3.cell 1; have k2 := h3.cell 2; have k3 := h3.cell 3; have k4 := h3.cell 4; have k5 := h3.cell 5; have f3 := h3.frozen; clear h3; have h4 := (HN.out.below b2).below b3; have z0 := h4.cell 0; have z1 := h4.cell 1; have z2 := h4.cell 2; have z3 := h4.cell 3; have z4 := h4.cell 4; have z5 := h4.cell 5; have f4 := h4.frozen; have hz4 := h4.lt; clear h4; have B3 := Lib.hid (bthen (bthen HB.out b2) b3); clear b3))
    all_goals
      rw [HX.out]
      go_wp2_with fail
      refine bodyPost_ret (v := .tuple #[RD ⟨all last ws, [], true, false, sy', ct⟩ (.slice none 0 0), .int .i64 0]) (by simp [results, Try.results78, go_sem, RD, z0, z1, z2, z3, z4, z5]) rfl ?_
      exact ⟨_, rfl, RW.nil _, below6 ((B3.out.setCell (p := ⟨w.heap.size, 0, none⟩) (Nat.le_refl _) _).setCell (p := ⟨w.heap.size, 1, none⟩) (Nat.le_refl _) _) (Nat.le_succ _) _ _ _ _ _ _⟩
set_option maxHeartbeats 1000000 in
theorem rSync_off (s : DSt) (ho : s.on = false) (v : Value) (w : World) (hr : RW v s.wait w) :
    Calls Try.prog 78 #[RD s v] w (RPost2 s 16 w) := by
  obtain ⟨A, cap, rfl, -⟩ := hr.row
  have HR := Lib.hid hr
  have HO := Lib.hid ho
  unfold RD
  rw [ho]
  clear ho hr
  go_enter Try.func78, Try.ntmps78
  go_wp2_with fail
  refine bodyPost_ret (v := .tuple #[RD s (.slice A s.wait.length cap), .int .i64 16]) (by simp [results, Try.results78, go_sem, RD, HO.out]) rfl ?_
  exact ⟨_, rfl, HR.out.below (below2 _ _ _), below2 _ _ _⟩
theorem rSync_calls (n : Nat) (s : DSt) (v : Value) (hs : Good n s) (w : World) (hr : RW v s.wait w) :
    Calls Try.prog 78 #[RD s v] w (RPost2 (rsync s).1 (rsync s).2 w) := by
  rcases (Bool.eq_false_or_eq_true s.on).symm with ho | ho
  · rw [rsync_off s ho]
    exact rSync_off s ho v w hr
  · obtain ⟨last, ws, on, ar, sy, ct⟩ := s
    simp only at ho
    subst ho
    by_cases h : ar = true ∧ sy = 0
    · obtain ⟨rfl, rfl⟩ := h
      rw [rsync_gone _ rfl rfl rfl]
      exact rSync_gone n last ws ct v hs w hr
    · have e : rsync ⟨last, ws, true, ar, sy, ct⟩ = (⟨all last ws, [], true, ar, if ar then sy - 1 else sy, ct⟩, 0) := by
        cases ar with
        | true =>
          rw [rsync_armed _ rfl rfl (by simp at h; exact h)]
          rfl
        | false => rw [rsync_not _ rfl rfl]; rfl
      rw [e]
      exact rSync_on n last ws ar sy ct v hs (fun ha hz => h ⟨ha, hz⟩) _ rfl w hr
end Go.Proofs.Ytopacbmdoognjaa.Disk
