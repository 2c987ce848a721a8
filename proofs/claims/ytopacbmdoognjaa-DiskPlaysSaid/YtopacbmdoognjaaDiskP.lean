/- Merged: DiskStep, DiskPlayDo, DiskNil, DiskPlays. -/
import Derived.Test.YtopacbmdoognjaaDiskR
import Derived.Test.YtopacbmdoognjaaDiskKept
/- Disk.Read whatever is asked, New of any number; acts, plainly: the program's disk and the document's. -/
namespace Go.Proofs.Ytopacbmdoognjaa.Disk
open Go Go.RowKit Frame
def readOf (s : DSt) (k : Int) : ByteArray := if chk s k = 0 then Oct.bs (blk (all s.last s.wait) k.toNat) else ⟨#[]⟩
set_option maxHeartbeats 1000000 in
theorem Read_any (base d L n : Nat) (wv : Value) (s : DSt) (k : Int) (hs : Good n s) (w : World) (h : Dk base d L wv s w) :
    Calls Try.prog 54 #[.pointer (some ⟨d, 0, none⟩), .int .i64 k] w fun e w' => e = .returned (.tuple #[.string (readOf s k), .int .i64 (chk s k)]) ∧ Below w.heap.size w w' := by
  have hl : s.last.length ≤ 262144 := by have := hs.len; have := hs.hn; omega
  by_cases hc : chk s k = 0
  · obtain ⟨_, h3, _⟩ := chk_zero hc
    rw [readOf, if_pos hc, hc]
    obtain ⟨q, rfl⟩ := Int.eq_ofNat_of_zero_le h3
    exact Read_yes base d L n wv s q hc hs w h
  · have HC := Lib.hid (check_calls base d L wv s k hl _ h)
    rw [readOf, if_neg hc]
    generalize chk s k = c at *
    have h' : (c != 0) = true := by simpa using hc
    clear hc h
    go_enter Try.func54, Try.ntmps54
    go_wp2_with fail
    refine HC.out.mono ?_
    rintro e w1 ⟨rfl, rfl⟩
    go_wp2_with fail
    go_ret2
    exact ⟨rfl, Below.refl _ _⟩
set_option maxRecDepth 100000 in
set_option maxHeartbeats 1000000 in
theorem New_any (b : Int) (m : Nat) (hm : max 0 (min b 4096) = (m : Int)) (w : World) :
    Calls Try.prog 26 #[.int .i64 b] w fun e w' => e = .returned (.pointer (some ⟨w.heap.size + 1, 0, none⟩)) ∧ One w.heap.size (w.heap.size + 1) w.heap.size (fresh m) w' ∧ Below w.heap.size w w' := by
  have HD := Lib.hid (Dk.start m w)
  have HB := Lib.hid (show Below w.heap.size w _ from ((Below.refl _ w).alloc (Nat.le_refl _) (.cells (madeCells #[.int .u8 0] (64 * m)) 5)).alloc (by simp) (.cells #[.slice (some ⟨w.heap.size, 0, none⟩) (64 * m) (64 * m), .slice none 0 0, .bool true, .bool false, .int .i64 0, .int .i64 0] 112))
  have hmm : m ≤ 4096 := by omega
  have hmk := fun W => run_make_row' (P := Try.prog) 103 5 (.int .u8 0) 1 Try.underlying103 infoU8 rfl .i64 .i64 (64 * m) (by omega) (by omega) W
  have ec : ((64 * m : Nat) : Int) = 64 * (m : Int) := by omega
  rw [ec] at hmk
  clear ec
  by_cases h1 : b ≤ 0
  · obtain rfl : m = 0 := by omega
    have em : max 0 (min b 4096) = 0 := by omega
    simp only [Nat.mul_zero, Int.natCast_zero, Int.mul_zero] at hmk
    clear hm
    go_enter Try.func26, Try.ntmps26
    go_wp2_with fail
    go_ret
    exact ⟨rfl, ⟨_, HD.out⟩, HB.out⟩
  · by_cases h2 : b < 4096
    · obtain rfl : b = (m : Int) := by omega
      have hp : 0 < m := by omega
      go_enter Try.func26, Try.ntmps26
      go_wp2_with fail
      go_ret
      exact ⟨rfl, ⟨_, HD.out⟩, HB.out⟩
    · obtain rfl : m = 4096 := by omega
      clear hm hmk
      have h3 : 4096 ≤ b := by omega
      have em : min b 4096 = 4096 := by omega
      have em2 : max (0 : Int) 4096 = 4096 := by decide
      have hmk := fun W => run_make_row' (P := Try.prog) 103 5 (.int .u8 0) 1 Try.underlying103 infoU8 rfl .i64 .i64 262144 (by omega) (by omega) W
      simp only [show ((262144 : Nat) : Int) = 262144 from rfl] at hmk
      have e : 64 * 4096 = 262144 := rfl
      simp only [e] at HD HB
      have HX := Lib.hid (show (⟨List.replicate 262144 0, [], true, false, 0, 0⟩ : DSt) = fresh 4096 from rfl)
      rw [HX.out] at HD
      clear e
      go_enter Try.func26, Try.ntmps26
      go_wp2_with fail
      go_ret
      exact ⟨rfl, ⟨_, HD.out⟩, HB.out⟩
/-- As the document has a disk: what is off knows of no arming. -/
def canon (s : DSt) : DSt := if s.on then s else ⟨s.last, s.wait, false, false, 0, 0⟩
structure Inv (s : DSt) : Prop where
  off : s.on = false → s.wait = []
  arm : s.on = true → s.armed = false → s.syncs = 0
def step (s : DSt) (x : DAct) : DSt :=
  if x.kind.toNat % 8 = 3 then (synced s).1 else if x.kind.toNat % 8 = 4 then s else if x.kind.toNat % 8 = 5 then armed s x.at_ x.cut else if x.kind.toNat % 8 = 6 then down s x.cut else if x.kind.toNat % 8 = 7 then upped s else wrote s x.at_ x.text
theorem canon_on {s : DSt} (h : s.on = true) : canon s = s := by unfold canon; rw [if_pos h]
theorem canon_off {s : DSt} (h : s.on = false) : canon s = ⟨s.last, s.wait, false, false, 0, 0⟩ := by unfold canon; rw [if_neg (by simp [h])]
theorem canon_last (s : DSt) : (canon s).last = s.last := by unfold canon; split <;> rfl
theorem canon_wait (s : DSt) : (canon s).wait = s.wait := by unfold canon; split <;> rfl
theorem canon_is (s : DSt) : (canon s).on = s.on := by unfold canon; split <;> simp_all
theorem canon_ans (s : DSt) (k : Int) (t : ByteArray) : ans (canon s) k t = ans s k t := ans_congr (canon_is s) (canon_last s) k t
theorem canon_chk (s : DSt) (k : Int) : chk (canon s) k = chk s k := by unfold chk; rw [canon_is, canon_last]
theorem Good.canon {n : Nat} {s : DSt} (h : Good n s) : Good n (canon s) := by
  unfold Disk.canon
  split
  · exact h
  · exact ⟨h.fits, h.len, h.hn, h.many, by simp, by simp⟩
theorem canon_sync (n : Nat) (s : DSt) (hg : Good n s) (h : Inv s) : canon (synced s).1 = (rsync (canon s)).1 ∧ (synced s).2 = (rsync (canon s)).2 ∧ Inv (synced s).1 := by
  rcases (Bool.eq_false_or_eq_true s.on).symm with ho | ho
  · rw [synced_off s ho, canon_off ho, rsync_off _ rfl]
    exact ⟨rfl, rfl, h⟩
  · rw [canon_on ho]
    rcases (Bool.eq_false_or_eq_true s.armed).symm with ha | ha
    · rw [synced_on s ho (.inl ha), rsync_not s ho ha]
      have hz := h.arm ho ha
      have hmx : max (0 : Int) (-1) = 0 := by decide
      refine ⟨?_, rfl, fun e => by simp [ho] at e, fun _ _ => by simp [hz, hmx]⟩
      rw [canon_on (by simp [ho])]
      simp [hz, hmx]
    · by_cases hz : s.syncs = 0
      · rw [synced_gone s ho ha hz, rsync_gone s ho ha hz]
        have e : (down s s.cut).on = false := by simp [down, ho]
        refine ⟨?_, rfl, fun _ => by simp [down, ho], fun e' => by rw [e] at e'; cases e'⟩
        rw [canon_off e]
        simp [down, rdown, ho]
      · rw [synced_on s ho (.inr hz), rsync_armed s ho ha hz]
        have h0 := hg.syncs
        have hmx : max 0 (s.syncs - 1) = s.syncs - 1 := by omega
        refine ⟨?_, rfl, fun e => by simp [ho] at e, fun _ e => by simp [ha] at e⟩
        rw [canon_on (by simp [ho])]
        simp [hmx]
theorem canon_arm (s : DSt) (a b : Int) (h : Inv s) : canon (armed s a b) = armed (canon s) a b ∧ Inv (armed s a b) := by
  rcases (Bool.eq_false_or_eq_true s.on).symm with ho | ho
  · have e : armed s a b = s := by simp [armed, ho]
    rw [e, canon_off ho]
    exact ⟨by simp [armed], h⟩
  · rw [canon_on ho, canon_on (by simp [armed, ho])]
    exact ⟨rfl, fun e => by simp [armed, ho] at e, fun _ e => by simp [armed, ho] at e⟩
theorem canon_down (s : DSt) (c : Int) (h : Inv s) : canon (down s c) = rdown (canon s) c ∧ Inv (down s c) := by
  rcases (Bool.eq_false_or_eq_true s.on).symm with ho | ho
  · have e : down s c = s := by simp [down, ho]
    rw [e, canon_off ho]
    exact ⟨by simp [rdown], h⟩
  · have e : (down s c).on = false := by simp [down, ho]
    rw [canon_on ho, canon_off e]
    exact ⟨by simp [down, rdown, ho], fun _ => by simp [down, ho], fun e' => by rw [e] at e'; cases e'⟩
theorem canon_up (s : DSt) (h : Inv s) : canon (upped s) = rup (canon s) ∧ Inv (upped s) := by
  rcases (Bool.eq_false_or_eq_true s.on).symm with ho | ho
  · have hw := h.off ho
    rw [canon_off ho, canon_on (by simp [upped, ho])]
    exact ⟨by simp [upped, rup, ho, hw], fun e => by simp [upped, ho] at e, fun _ _ => by simp [upped, ho]⟩
  · have e : upped s = s := by simp [upped, ho]
    rw [e, canon_on ho]
    exact ⟨by simp [rup, ho], h⟩
theorem canon_wrote (s : DSt) (k : Int) (t : ByteArray) (h : Inv s) : canon (wrote s k t) = wrote (canon s) k t ∧ Inv (wrote s k t) := by
  by_cases hz : ans s k t = 0
  · have ho := (chk_zero (ans_zero hz).1).1
    have e : wrote s k t = { s with wait := s.wait ++ [(k.toNat, t)] } := by unfold wrote; rw [if_pos hz]
    rw [canon_on ho, e, canon_on (by simp [ho])]
    exact ⟨rfl, fun e => by simp [ho] at e, h.arm⟩
  · rw [wrote_no s k t hz, wrote_no (canon s) k t (by rw [canon_ans]; exact hz)]
    exact ⟨rfl, h⟩
end Go.Proofs.Ytopacbmdoognjaa.Disk
/- The walk of stairwelllaw15.do. -/
namespace Go.Proofs.Ytopacbmdoognjaa.Disk
open Go Go.RowKit Frame
/-- What holds behind the two calls. -/
structure PlI (B d L : Nat) (s : DSt) (v : Value) (b4 b6 : Nat) (w w3 : World) : Prop where
  one : One B d L s w3
  rw_ : RW v s.wait w3
  bel : Below B w w3
  kept : Kept w w3
  h4 : ∃ cs, Has b4 cs 63 w3
  h6 : ∃ cs, Has b6 cs 63 w3
theorem PlI.set4 {B d L : Nat} {s : DSt} {v : Value} {b4 b6 : Nat} {w w3 : World} (h : PlI B d L s v b4 b6 w w3) (hB : B ≤ w.heap.size) (hb : w.heap.size ≤ b4) (hne : b4 ≠ b6) (i : Nat) (x : Value) : PlI B d L s v b4 b6 w (w3.setCell ⟨b4, i, none⟩ x) := by
  obtain ⟨cs, h4⟩ := h.h4
  obtain ⟨cs6, h6⟩ := h.h6
  exact ⟨h.one.set_other h4 (by decide) (by decide) (by decide) x, h.rw_.set1 (h.rw_.apart h4 (by decide)) x, h.bel.setCell (p := ⟨b4, i, none⟩) (by show B ≤ b4; omega) x, h.kept.set hb x, ⟨_, h4.set x⟩, ⟨_, h6.set_other (p := ⟨b4, i, none⟩) hne x⟩⟩
theorem PlI.swap {B d L : Nat} {s : DSt} {v : Value} {b4 b6 : Nat} {w w3 : World} (h : PlI B d L s v b4 b6 w w3) : PlI B d L s v b6 b4 w w3 := ⟨h.one, h.rw_, h.bel, h.kept, h.h6, h.h4⟩
theorem PlI.six {B d L : Nat} {s : DSt} {v : Value} {b4 b6 : Nat} {w w3 : World} (h : PlI B d L s v b4 b6 w w3) (hB : B ≤ w.heap.size) (hb : w.heap.size ≤ b4) (hne : b4 ≠ b6) (v0 v1 v2 v3 v4 v5 : Value) : PlI B d L s v b4 b6 w (set6 w3 b4 v0 v1 v2 v3 v4 v5) :=
  (((((h.set4 hB hb hne 0 v0).set4 hB hb hne 1 v1).set4 hB hb hne 2 v2).set4 hB hb hne 3 v3).set4 hB hb hne 4 v4).set4 hB hb hne 5 v5
def DoPost (B d L : Nat) (s' : DSt) (w : World) (e : Ending) (w' : World) : Prop :=
  ∃ v', e = .returned (.tuple #[RD (canon s') v', .bool true]) ∧ One B d L s' w' ∧ RW v' s'.wait w' ∧ Below B w w' ∧ Kept w w'
theorem PlI.post {B d L : Nat} {s : DSt} {v : Value} {b4 b6 : Nat} {w w3 : World} {e : Ending} (h : PlI B d L s v b4 b6 w w3) (he : e = .returned (.tuple #[RD (canon s) v, .bool true])) : DoPost B d L s w e w3 := ⟨v, he, h.one, h.rw_, h.bel, h.kept⟩
def actCells (x : DAct) : Array Value := #[.int .u8 x.kind.toNat, .int .i64 x.at_, .int .i64 x.cut, .string x.text]
def DoW (q : DSt) (v : Value) (x : DAct) (w : World) : World := ((w.alloc (.cells (RCells q v) 63)).alloc (.cells (actCells x) 42)).alloc (.cells zeroR 63)
structure DoS (q : DSt) (v : Value) (x : DAct) (b : Nat) (w : World) : Prop where
  h4 : Has b (RCells q v) 63 w
  h5 : Has (b + 1) (actCells x) 42 w
  h6 : Has (b + 2) zeroR 63 w
theorem DoS.start (q : DSt) (v : Value) (x : DAct) (w : World) : DoS q v x w.heap.size (DoW q v x w) := by
  refine ⟨((Has.new _ _ _).alloc _).alloc _, ?_, ?_⟩
  · have := (Has.new (w.alloc (.cells (RCells q v) 63)) (actCells x) 42).alloc (.cells zeroR 63)
    simpa [DoW] using this
  · have := Has.new ((w.alloc (.cells (RCells q v) 63)).alloc (.cells (actCells x) 42)) zeroR 63
    simpa [DoW] using this
theorem DoS.kept {q : DSt} {v : Value} {x : DAct} {b : Nat} {w w' : World} (h : DoS q v x b w) (k : Kept w w') : DoS q v x b w' :=
  ⟨k _ _ _ (by decide) (by decide) (by decide) h.h4, k _ _ _ (by decide) (by decide) (by decide) h.h5, k _ _ _ (by decide) (by decide) (by decide) h.h6⟩
theorem DoW.below (q : DSt) (v : Value) (x : DAct) (w : World) : Below w.heap.size w (DoW q v x w) := (((Below.refl _ _).alloc (Nat.le_refl _) _).alloc (by simp) _).alloc (by simp; omega) _
theorem DoS.k0 {q : DSt} {v : Value} {x : DAct} {b : Nat} {w : World} (h : DoS q v x b w) : w.cell? ⟨b, 0, none⟩ = some (.string (Oct.bs q.last)) := h.h4.cell 0
theorem DoS.k1 {q : DSt} {v : Value} {x : DAct} {b : Nat} {w : World} (h : DoS q v x b w) : w.cell? ⟨b, 1, none⟩ = some (v) := h.h4.cell 1
theorem DoS.k2 {q : DSt} {v : Value} {x : DAct} {b : Nat} {w : World} (h : DoS q v x b w) : w.cell? ⟨b, 2, none⟩ = some (.bool q.on) := h.h4.cell 2
theorem DoS.k3 {q : DSt} {v : Value} {x : DAct} {b : Nat} {w : World} (h : DoS q v x b w) : w.cell? ⟨b, 3, none⟩ = some (.bool q.armed) := h.h4.cell 3
theorem DoS.k4 {q : DSt} {v : Value} {x : DAct} {b : Nat} {w : World} (h : DoS q v x b w) : w.cell? ⟨b, 4, none⟩ = some (.int .i64 q.syncs) := h.h4.cell 4
theorem DoS.k5 {q : DSt} {v : Value} {x : DAct} {b : Nat} {w : World} (h : DoS q v x b w) : w.cell? ⟨b, 5, none⟩ = some (.int .i64 q.cut) := h.h4.cell 5
theorem DoS.a0 {q : DSt} {v : Value} {x : DAct} {b : Nat} {w : World} (h : DoS q v x b w) : w.cell? ⟨b + 1, 0, none⟩ = some (.int .u8 x.kind.toNat) := h.h5.cell 0
theorem DoS.a1 {q : DSt} {v : Value} {x : DAct} {b : Nat} {w : World} (h : DoS q v x b w) : w.cell? ⟨b + 1, 1, none⟩ = some (.int .i64 x.at_) := h.h5.cell 1
theorem DoS.a2 {q : DSt} {v : Value} {x : DAct} {b : Nat} {w : World} (h : DoS q v x b w) : w.cell? ⟨b + 1, 2, none⟩ = some (.int .i64 x.cut) := h.h5.cell 2
theorem DoS.a3 {q : DSt} {v : Value} {x : DAct} {b : Nat} {w : World} (h : DoS q v x b w) : w.cell? ⟨b + 1, 3, none⟩ = some (.string x.text) := h.h5.cell 3
theorem DoS.z0 {q : DSt} {v : Value} {x : DAct} {b : Nat} {w : World} (h : DoS q v x b w) : w.cell? ⟨b + 2, 0, none⟩ = some (.string { data := #[] }) := h.h6.cell 0
theorem DoS.z1 {q : DSt} {v : Value} {x : DAct} {b : Nat} {w : World} (h : DoS q v x b w) : w.cell? ⟨b + 2, 1, none⟩ = some (.slice none 0 0) := h.h6.cell 1
theorem DoS.z2 {q : DSt} {v : Value} {x : DAct} {b : Nat} {w : World} (h : DoS q v x b w) : w.cell? ⟨b + 2, 2, none⟩ = some (.bool false) := h.h6.cell 2
theorem DoS.z3 {q : DSt} {v : Value} {x : DAct} {b : Nat} {w : World} (h : DoS q v x b w) : w.cell? ⟨b + 2, 3, none⟩ = some (.bool false) := h.h6.cell 3
theorem DoS.z4 {q : DSt} {v : Value} {x : DAct} {b : Nat} {w : World} (h : DoS q v x b w) : w.cell? ⟨b + 2, 4, none⟩ = some (.int .i64 0) := h.h6.cell 4
theorem DoS.z5 {q : DSt} {v : Value} {x : DAct} {b : Nat} {w : World} (h : DoS q v x b w) : w.cell? ⟨b + 2, 5, none⟩ = some (.int .i64 0) := h.h6.cell 5
set_option maxRecDepth 100000 in
set_option maxHeartbeats 2000000 in
theorem do_sync (B d L n : Nat) (s : DSt) (v : Value) (x : DAct) (hk : x.kind.toNat % 8 = 3) (hx : x.Ok) (hs : Good n s) (hn : s.wait.length + 1 ≤ 100000) (hi : Inv s) (w : World) (hB : B ≤ w.heap.size) (h1 : One B d L s w) (hr : RW v s.wait w) :
    Calls Try.prog 52 #[.pointer (some ⟨d, 0, none⟩), RD (canon s) v, .agg (actCells x)] w (DoPost B d L ((synced s).1) w) := by
  obtain ⟨A, cap, rfl, -⟩ := hr.row
  have HS0 := Lib.hid (DoS.start (canon s) (.slice A s.wait.length cap) x w)
  have HB0 := Lib.hid (DoW.below (canon s) (.slice A s.wait.length cap) x w)
  have HR := Lib.hid (hr.below HB0.out)
  have HO := Lib.hid (h1.below HB0.out)
  have HG := Lib.hid hs
  have HX := Lib.hid hx
  have HN := Lib.hid hn
  have HC := Lib.hid (canon_sync n s hs hi)
  have gq := hs.canon
  have HGQ := Lib.hid gq
  have hcw : (canon s).wait = s.wait := canon_wait s
  have HCW := Lib.hid hcw
  clear gq hcw hs hx hi h1 hr hn
  unfold RD
  generalize hqq : canon s = q at *
  have HQ0 := Lib.hid hqq
  clear hqq
  obtain ⟨kd, at_, ct, t⟩ := x
  unfold DoW RCells actCells zeroR at HB0 HR HO HS0
  unfold actCells
  simp only at hk HX HB0 HR HO HS0 HC ⊢
  go_enter Try.func52, Try.ntmps52
  have hk' : (kd.toNat : Int) % 8 = 3 := by omega
  go_wp2_with fail
  refine (HO.out.calls fun v1 hd => Sync_any _ _ _ n v1 _ HG.out _ hd).mono ?_
  rintro e w2 ⟨rfl, o2, b2, kk2⟩
  have O2 := Lib.hid o2
  have KK2 := Lib.hid kk2
  have B2 := Lib.hid ((HB0.out.mono hB).trans b2)
  have S2 := Lib.hid (HS0.out.kept kk2)
  have HR2 := Lib.hid (show RW (.slice A s.wait.length cap) q.wait w2 from by rw [HCW.out]; exact HR.out.kept kk2)
  have hs2 : B ≤ w2.heap.size := Nat.le_trans hB (Nat.le_of_lt (Nat.lt_trans (by omega) S2.out.h6.lt))
  clear o2 b2 kk2
  rw [HC.out.2.1]
  have k0 := S2.out.k0; have k1 := S2.out.k1; have k2 := S2.out.k2; have k3 := S2.out.k3; have k4 := S2.out.k4; have k5 := S2.out.k5; have kf := S2.out.h4.frozen
  have a0 := S2.out.a0; have a1 := S2.out.a1; have a2 := S2.out.a2; have a3 := S2.out.a3
  have z0 := S2.out.z0; have z1 := S2.out.z1; have z2 := S2.out.z2; have z3 := S2.out.z3; have z4 := S2.out.z4; have z5 := S2.out.z5; have zf := S2.out.h6.frozen
  go_wp2_with fail
  refine (rSync_calls n q _ HGQ.out _ HR2.out).mono ?_
  rintro e w3 ⟨v3, rfl, r3, b3⟩
  obtain ⟨A3, cap3, rfl, -⟩ := r3.row
  have S3 := Lib.hid (S2.out.kept (Kept.of_below b3))
  have HP := Lib.hid (show PlI B d L ((synced s).1) (.slice A3 ((rsync q).1).wait.length cap3) w.heap.size (w.heap.size + 2) w w3 from
    ⟨O2.out.below b3, by
      have e : ((rsync q).1).wait = ((synced s).1).wait := by rw [← HC.out.1, canon_wait]
      rw [e] at r3 ⊢
      exact r3, B2.out.trans (b3.mono hs2), ((Kept.of_below HB0.out).trans KK2.out).trans (Kept.of_below b3), ⟨_, S3.out.h4⟩, ⟨_, S3.out.h6⟩⟩)
  have HQ := Lib.hid (show canon ((synced s).1) = (rsync q).1 from HC.out.1)
  clear r3 b3 k0 k1 k2 k3 k4 k5 kf a0 a1 a2 a3 z0 z1 z2 z3 z4 z5 zf
  unfold RD
  have k0 := S3.out.k0; have k1 := S3.out.k1; have k2 := S3.out.k2; have k3 := S3.out.k3; have k4 := S3.out.k4; have k5 := S3.out.k5; have kf := S3.out.h4.frozen
  have a0 := S3.out.a0; have a1 := S3.out.a1; have a2 := S3.out.a2; have a3 := S3.out.a3
  have z0 := S3.out.z0; have z1 := S3.out.z1; have z2 := S3.out.z2; have z3 := S3.out.z3; have z4 := S3.out.z4; have z5 := S3.out.z5; have zf := S3.out.h6.frozen
  generalize (rsync q).1 = q3 at *
  generalize (rsync q).2 = r3 at *
  go_wp2_with fail
  refine bodyPost_ret (v := .tuple #[RD q3 (.slice A3 q3.wait.length cap3), .bool true]) (by simp [results, Try.results52, go_sem, RD, z0, z1, z2, z3, z4, z5]) rfl ?_
  have h := ((HP.out.six hB (Nat.le_refl _) (by omega) (.string (Oct.bs q3.last)) (.slice A3 q3.wait.length cap3) (.bool q3.on) (.bool q3.armed) (.int .i64 q3.syncs) (.int .i64 q3.cut)).swap).six hB (by omega) (by omega) (.string (Oct.bs q3.last)) (.slice A3 q3.wait.length cap3) (.bool q3.on) (.bool q3.armed) (.int .i64 q3.syncs) (.int .i64 q3.cut)
  exact h.post (by rw [HQ.out])
set_option maxRecDepth 100000 in
set_option maxHeartbeats 2000000 in
theorem do_arm (B d L n : Nat) (s : DSt) (v : Value) (x : DAct) (hk : x.kind.toNat % 8 = 5) (hx : x.Ok) (hs : Good n s) (hn : s.wait.length + 1 ≤ 100000) (hi : Inv s) (w : World) (hB : B ≤ w.heap.size) (h1 : One B d L s w) (hr : RW v s.wait w) :
    Calls Try.prog 52 #[.pointer (some ⟨d, 0, none⟩), RD (canon s) v, .agg (actCells x)] w (DoPost B d L (armed s x.at_ x.cut) w) := by
  obtain ⟨A, cap, rfl, -⟩ := hr.row
  have HS0 := Lib.hid (DoS.start (canon s) (.slice A s.wait.length cap) x w)
  have HB0 := Lib.hid (DoW.below (canon s) (.slice A s.wait.length cap) x w)
  have HR := Lib.hid (hr.below HB0.out)
  have HO := Lib.hid (h1.below HB0.out)
  have HG := Lib.hid hs
  have HX := Lib.hid hx
  have HN := Lib.hid hn
  have HC := Lib.hid (canon_arm s x.at_ x.cut hi)
  have gq := hs.canon
  have HGQ := Lib.hid gq
  have hcw : (canon s).wait = s.wait := canon_wait s
  have HCW := Lib.hid hcw
  clear gq hcw hs hx hi h1 hr hn
  unfold RD
  generalize hqq : canon s = q at *
  have HQ0 := Lib.hid hqq
  clear hqq
  obtain ⟨kd, at_, ct, t⟩ := x
  unfold DoW RCells actCells zeroR at HB0 HR HO HS0
  unfold actCells
  simp only at hk HX HB0 HR HO HS0 HC ⊢
  go_enter Try.func52, Try.ntmps52
  have hk' : (kd.toNat : Int) % 8 = 5 := by omega
  go_wp2_with fail
  refine (HO.out.calls fun v1 hd => (Arm_calls _ _ _ v1 _ at_ ct _ hd).mono fun _ _ h => post_of_only h.1 h.2.1 h.2.2).mono ?_
  rintro e w2 ⟨rfl, o2, b2, kk2⟩
  have O2 := Lib.hid o2
  have KK2 := Lib.hid kk2
  have B2 := Lib.hid ((HB0.out.mono hB).trans b2)
  have S2 := Lib.hid (HS0.out.kept kk2)
  have HR2 := Lib.hid (show RW (.slice A s.wait.length cap) q.wait w2 from by rw [HCW.out]; exact HR.out.kept kk2)
  have hs2 : B ≤ w2.heap.size := Nat.le_trans hB (Nat.le_of_lt (Nat.lt_trans (by omega) S2.out.h6.lt))
  clear o2 b2 kk2
  have k0 := S2.out.k0; have k1 := S2.out.k1; have k2 := S2.out.k2; have k3 := S2.out.k3; have k4 := S2.out.k4; have k5 := S2.out.k5; have kf := S2.out.h4.frozen
  have a0 := S2.out.a0; have a1 := S2.out.a1; have a2 := S2.out.a2; have a3 := S2.out.a3
  have z0 := S2.out.z0; have z1 := S2.out.z1; have z2 := S2.out.z2; have z3 := S2.out.z3; have z4 := S2.out.z4; have z5 := S2.out.z5; have zf := S2.out.h6.frozen
  go_wp2_with fail
  refine (rArm_calls q _ at_ ct _ HR2.out).mono ?_
  rintro e w3 ⟨v3, rfl, r3, b3⟩
  obtain ⟨A3, cap3, rfl, -⟩ := r3.row
  have S3 := Lib.hid (S2.out.kept (Kept.of_below b3))
  have HP := Lib.hid (show PlI B d L (armed s at_ ct) (.slice A3 (armed q at_ ct).wait.length cap3) w.heap.size (w.heap.size + 2) w w3 from
    ⟨O2.out.below b3, by
      have e : (armed q at_ ct).wait = (armed s at_ ct).wait := by rw [← HC.out.1, canon_wait]
      rw [e] at r3 ⊢
      exact r3, B2.out.trans (b3.mono hs2), ((Kept.of_below HB0.out).trans KK2.out).trans (Kept.of_below b3), ⟨_, S3.out.h4⟩, ⟨_, S3.out.h6⟩⟩)
  have HQ := Lib.hid (show canon (armed s at_ ct) = armed q at_ ct from HC.out.1)
  clear r3 b3 k0 k1 k2 k3 k4 k5 kf a0 a1 a2 a3 z0 z1 z2 z3 z4 z5 zf
  unfold RD
  have k0 := S3.out.k0; have k1 := S3.out.k1; have k2 := S3.out.k2; have k3 := S3.out.k3; have k4 := S3.out.k4; have k5 := S3.out.k5; have kf := S3.out.h4.frozen
  have a0 := S3.out.a0; have a1 := S3.out.a1; have a2 := S3.out.a2; have a3 := S3.out.a3
  have z0 := S3.out.z0; have z1 := S3.out.z1; have z2 := S3.out.z2; have z3 := S3.out.z3; have z4 := S3.out.z4; have z5 := S3.out.z5; have zf := S3.out.h6.frozen
  generalize armed q at_ ct = q3 at *
  go_wp2_with fail
  refine bodyPost_ret (v := .tuple #[RD q3 (.slice A3 q3.wait.length cap3), .bool true]) (by simp [results, Try.results52, go_sem, RD, z0, z1, z2, z3, z4, z5]) rfl ?_
  have h := ((HP.out.six hB (Nat.le_refl _) (by omega) (.string (Oct.bs q3.last)) (.slice A3 q3.wait.length cap3) (.bool q3.on) (.bool q3.armed) (.int .i64 q3.syncs) (.int .i64 q3.cut)).swap).six hB (by omega) (by omega) (.string (Oct.bs q3.last)) (.slice A3 q3.wait.length cap3) (.bool q3.on) (.bool q3.armed) (.int .i64 q3.syncs) (.int .i64 q3.cut)
  exact h.post (by rw [HQ.out])
set_option maxRecDepth 100000 in
set_option maxHeartbeats 2000000 in
theorem do_down (B d L n : Nat) (s : DSt) (v : Value) (x : DAct) (hk : x.kind.toNat % 8 = 6) (hx : x.Ok) (hs : Good n s) (hn : s.wait.length + 1 ≤ 100000) (hi : Inv s) (w : World) (hB : B ≤ w.heap.size) (h1 : One B d L s w) (hr : RW v s.wait w) :
    Calls Try.prog 52 #[.pointer (some ⟨d, 0, none⟩), RD (canon s) v, .agg (actCells x)] w (DoPost B d L (down s x.cut) w) := by
  obtain ⟨A, cap, rfl, -⟩ := hr.row
  have HS0 := Lib.hid (DoS.start (canon s) (.slice A s.wait.length cap) x w)
  have HB0 := Lib.hid (DoW.below (canon s) (.slice A s.wait.length cap) x w)
  have HR := Lib.hid (hr.below HB0.out)
  have HO := Lib.hid (h1.below HB0.out)
  have HG := Lib.hid hs
  have HX := Lib.hid hx
  have HN := Lib.hid hn
  have HC := Lib.hid (canon_down s x.cut hi)
  have gq := hs.canon
  have HGQ := Lib.hid gq
  have hcw : (canon s).wait = s.wait := canon_wait s
  have HCW := Lib.hid hcw
  clear gq hcw hs hx hi h1 hr hn
  unfold RD
  generalize hqq : canon s = q at *
  have HQ0 := Lib.hid hqq
  clear hqq
  obtain ⟨kd, at_, ct, t⟩ := x
  unfold DoW RCells actCells zeroR at HB0 HR HO HS0
  unfold actCells
  simp only at hk HX HB0 HR HO HS0 HC ⊢
  go_enter Try.func52, Try.ntmps52
  have hk' : (kd.toNat : Int) % 8 = 6 := by omega
  go_wp2_with fail
  refine (HO.out.calls fun v1 hd => Down_calls _ _ _ n v1 _ ct HX.out.2.1 HG.out _ hd).mono ?_
  rintro e w2 ⟨rfl, o2, b2, kk2⟩
  have O2 := Lib.hid o2
  have KK2 := Lib.hid kk2
  have B2 := Lib.hid ((HB0.out.mono hB).trans b2)
  have S2 := Lib.hid (HS0.out.kept kk2)
  have HR2 := Lib.hid (show RW (.slice A s.wait.length cap) q.wait w2 from by rw [HCW.out]; exact HR.out.kept kk2)
  have hs2 : B ≤ w2.heap.size := Nat.le_trans hB (Nat.le_of_lt (Nat.lt_trans (by omega) S2.out.h6.lt))
  clear o2 b2 kk2
  have k0 := S2.out.k0; have k1 := S2.out.k1; have k2 := S2.out.k2; have k3 := S2.out.k3; have k4 := S2.out.k4; have k5 := S2.out.k5; have kf := S2.out.h4.frozen
  have a0 := S2.out.a0; have a1 := S2.out.a1; have a2 := S2.out.a2; have a3 := S2.out.a3
  have z0 := S2.out.z0; have z1 := S2.out.z1; have z2 := S2.out.z2; have z3 := S2.out.z3; have z4 := S2.out.z4; have z5 := S2.out.z5; have zf := S2.out.h6.frozen
  go_wp2_with fail
  refine (rDown_calls n q _ ct HX.out.2.1 HGQ.out _ HR2.out).mono ?_
  rintro e w3 ⟨v3, rfl, r3, b3⟩
  obtain ⟨A3, cap3, rfl, -⟩ := r3.row
  have S3 := Lib.hid (S2.out.kept (Kept.of_below b3))
  have HP := Lib.hid (show PlI B d L (down s ct) (.slice A3 (rdown q ct).wait.length cap3) w.heap.size (w.heap.size + 2) w w3 from
    ⟨O2.out.below b3, by
      have e : (rdown q ct).wait = (down s ct).wait := by rw [← HC.out.1, canon_wait]
      rw [e] at r3 ⊢
      exact r3, B2.out.trans (b3.mono hs2), ((Kept.of_below HB0.out).trans KK2.out).trans (Kept.of_below b3), ⟨_, S3.out.h4⟩, ⟨_, S3.out.h6⟩⟩)
  have HQ := Lib.hid (show canon (down s ct) = rdown q ct from HC.out.1)
  clear r3 b3 k0 k1 k2 k3 k4 k5 kf a0 a1 a2 a3 z0 z1 z2 z3 z4 z5 zf
  unfold RD
  have k0 := S3.out.k0; have k1 := S3.out.k1; have k2 := S3.out.k2; have k3 := S3.out.k3; have k4 := S3.out.k4; have k5 := S3.out.k5; have kf := S3.out.h4.frozen
  have a0 := S3.out.a0; have a1 := S3.out.a1; have a2 := S3.out.a2; have a3 := S3.out.a3
  have z0 := S3.out.z0; have z1 := S3.out.z1; have z2 := S3.out.z2; have z3 := S3.out.z3; have z4 := S3.out.z4; have z5 := S3.out.z5; have zf := S3.out.h6.frozen
  generalize rdown q ct = q3 at *
  go_wp2_with fail
  refine bodyPost_ret (v := .tuple #[RD q3 (.slice A3 q3.wait.length cap3), .bool true]) (by simp [results, Try.results52, go_sem, RD, z0, z1, z2, z3, z4, z5]) rfl ?_
  have h := ((HP.out.six hB (Nat.le_refl _) (by omega) (.string (Oct.bs q3.last)) (.slice A3 q3.wait.length cap3) (.bool q3.on) (.bool q3.armed) (.int .i64 q3.syncs) (.int .i64 q3.cut)).swap).six hB (by omega) (by omega) (.string (Oct.bs q3.last)) (.slice A3 q3.wait.length cap3) (.bool q3.on) (.bool q3.armed) (.int .i64 q3.syncs) (.int .i64 q3.cut)
  exact h.post (by rw [HQ.out])
set_option maxRecDepth 100000 in
set_option maxHeartbeats 2000000 in
theorem do_up (B d L n : Nat) (s : DSt) (v : Value) (x : DAct) (hk : x.kind.toNat % 8 = 7) (hx : x.Ok) (hs : Good n s) (hn : s.wait.length + 1 ≤ 100000) (hi : Inv s) (w : World) (hB : B ≤ w.heap.size) (h1 : One B d L s w) (hr : RW v s.wait w) :
    Calls Try.prog 52 #[.pointer (some ⟨d, 0, none⟩), RD (canon s) v, .agg (actCells x)] w (DoPost B d L (upped s) w) := by
  obtain ⟨A, cap, rfl, -⟩ := hr.row
  have HS0 := Lib.hid (DoS.start (canon s) (.slice A s.wait.length cap) x w)
  have HB0 := Lib.hid (DoW.below (canon s) (.slice A s.wait.length cap) x w)
  have HR := Lib.hid (hr.below HB0.out)
  have HO := Lib.hid (h1.below HB0.out)
  have HG := Lib.hid hs
  have HX := Lib.hid hx
  have HN := Lib.hid hn
  have HC := Lib.hid (canon_up s hi)
  have gq := hs.canon
  have HGQ := Lib.hid gq
  have hcw : (canon s).wait = s.wait := canon_wait s
  have HCW := Lib.hid hcw
  clear gq hcw hs hx hi h1 hr hn
  unfold RD
  generalize hqq : canon s = q at *
  have HQ0 := Lib.hid hqq
  clear hqq
  obtain ⟨kd, at_, ct, t⟩ := x
  unfold DoW RCells actCells zeroR at HB0 HR HO HS0
  unfold actCells
  simp only at hk HX HB0 HR HO HS0 HC ⊢
  go_enter Try.func52, Try.ntmps52
  have hk' : (kd.toNat : Int) % 8 = 7 := by omega
  go_wp2_with fail
  refine (HO.out.calls fun v1 hd => (Up_calls _ _ _ v1 _ _ hd).mono fun _ _ h => post_of_only h.1 h.2.1 h.2.2).mono ?_
  rintro e w2 ⟨rfl, o2, b2, kk2⟩
  have O2 := Lib.hid o2
  have KK2 := Lib.hid kk2
  have B2 := Lib.hid ((HB0.out.mono hB).trans b2)
  have S2 := Lib.hid (HS0.out.kept kk2)
  have HR2 := Lib.hid (show RW (.slice A s.wait.length cap) q.wait w2 from by rw [HCW.out]; exact HR.out.kept kk2)
  have hs2 : B ≤ w2.heap.size := Nat.le_trans hB (Nat.le_of_lt (Nat.lt_trans (by omega) S2.out.h6.lt))
  clear o2 b2 kk2
  have k0 := S2.out.k0; have k1 := S2.out.k1; have k2 := S2.out.k2; have k3 := S2.out.k3; have k4 := S2.out.k4; have k5 := S2.out.k5; have kf := S2.out.h4.frozen
  have a0 := S2.out.a0; have a1 := S2.out.a1; have a2 := S2.out.a2; have a3 := S2.out.a3
  have z0 := S2.out.z0; have z1 := S2.out.z1; have z2 := S2.out.z2; have z3 := S2.out.z3; have z4 := S2.out.z4; have z5 := S2.out.z5; have zf := S2.out.h6.frozen
  go_wp2_with fail
  refine (rUp_calls q _ _ HR2.out).mono ?_
  rintro e w3 ⟨v3, rfl, r3, b3⟩
  obtain ⟨A3, cap3, rfl, -⟩ := r3.row
  have S3 := Lib.hid (S2.out.kept (Kept.of_below b3))
  have HP := Lib.hid (show PlI B d L (upped s) (.slice A3 (rup q).wait.length cap3) w.heap.size (w.heap.size + 2) w w3 from
    ⟨O2.out.below b3, by
      have e : (rup q).wait = (upped s).wait := by rw [← HC.out.1, canon_wait]
      rw [e] at r3 ⊢
      exact r3, B2.out.trans (b3.mono hs2), ((Kept.of_below HB0.out).trans KK2.out).trans (Kept.of_below b3), ⟨_, S3.out.h4⟩, ⟨_, S3.out.h6⟩⟩)
  have HQ := Lib.hid (show canon (upped s) = rup q from HC.out.1)
  clear r3 b3 k0 k1 k2 k3 k4 k5 kf a0 a1 a2 a3 z0 z1 z2 z3 z4 z5 zf
  unfold RD
  have k0 := S3.out.k0; have k1 := S3.out.k1; have k2 := S3.out.k2; have k3 := S3.out.k3; have k4 := S3.out.k4; have k5 := S3.out.k5; have kf := S3.out.h4.frozen
  have a0 := S3.out.a0; have a1 := S3.out.a1; have a2 := S3.out.a2; have a3 := S3.out.a3
  have z0 := S3.out.z0; have z1 := S3.out.z1; have z2 := S3.out.z2; have z3 := S3.out.z3; have z4 := S3.out.z4; have z5 := S3.out.z5; have zf := S3.out.h6.frozen
  generalize rup q = q3 at *
  go_wp2_with fail
  refine bodyPost_ret (v := .tuple #[RD q3 (.slice A3 q3.wait.length cap3), .bool true]) (by simp [results, Try.results52, go_sem, RD, z0, z1, z2, z3, z4, z5]) rfl ?_
  have h := ((HP.out.six hB (Nat.le_refl _) (by omega) (.string (Oct.bs q3.last)) (.slice A3 q3.wait.length cap3) (.bool q3.on) (.bool q3.armed) (.int .i64 q3.syncs) (.int .i64 q3.cut)).swap).six hB (by omega) (by omega) (.string (Oct.bs q3.last)) (.slice A3 q3.wait.length cap3) (.bool q3.on) (.bool q3.armed) (.int .i64 q3.syncs) (.int .i64 q3.cut)
  exact h.post (by rw [HQ.out])
set_option maxRecDepth 100000 in
set_option maxHeartbeats 2000000 in
theorem do_write (B d L n : Nat) (s : DSt) (v : Value) (x : DAct) (hk : x.kind.toNat % 8 < 3) (hx : x.Ok) (hs : Good n s) (hn : s.wait.length + 1 ≤ 100000) (hi : Inv s) (w : World) (hB : B ≤ w.heap.size) (h1 : One B d L s w) (hr : RW v s.wait w) :
    Calls Try.prog 52 #[.pointer (some ⟨d, 0, none⟩), RD (canon s) v, .agg (actCells x)] w (DoPost B d L (wrote s x.at_ x.text) w) := by
  obtain ⟨A, cap, rfl, -⟩ := hr.row
  have HS0 := Lib.hid (DoS.start (canon s) (.slice A s.wait.length cap) x w)
  have HB0 := Lib.hid (DoW.below (canon s) (.slice A s.wait.length cap) x w)
  have HR := Lib.hid (hr.below HB0.out)
  have HO := Lib.hid (h1.below HB0.out)
  have HG := Lib.hid hs
  have HX := Lib.hid hx
  have HN := Lib.hid hn
  have HC := Lib.hid (canon_wrote s x.at_ x.text hi)
  have HA := Lib.hid (canon_ans s x.at_ x.text).symm
  have gq := hs.canon
  have HGQ := Lib.hid gq
  have hcw : (canon s).wait = s.wait := canon_wait s
  have HCW := Lib.hid hcw
  clear gq hcw hs hx hi h1 hr hn
  unfold RD
  generalize hqq : canon s = q at *
  have HQ0 := Lib.hid hqq
  clear hqq
  obtain ⟨kd, at_, ct, t⟩ := x
  unfold DoW RCells actCells zeroR at HB0 HR HO HS0
  unfold actCells
  simp only at hk HX HB0 HR HO HS0 HC HA ⊢
  go_enter Try.func52, Try.ntmps52
  have hk3 : ((kd.toNat : Int) % 8 == 3) = false := by simp; omega
  have hk4 : ((kd.toNat : Int) % 8 == 4) = false := by simp; omega
  have hk5 : ((kd.toNat : Int) % 8 == 5) = false := by simp; omega
  have hk6 : ((kd.toNat : Int) % 8 == 6) = false := by simp; omega
  have hk7 : ((kd.toNat : Int) % 8 == 7) = false := by simp; omega
  go_wp2_with fail
  refine (HO.out.calls fun v1 hd => Write_any _ _ _ n v1 _ at_ t HG.out HN.out _ hd).mono ?_
  rintro e w2 ⟨rfl, o2, b2, kk2⟩
  have O2 := Lib.hid o2
  have KK2 := Lib.hid kk2
  have B2 := Lib.hid ((HB0.out.mono hB).trans b2)
  have S2 := Lib.hid (HS0.out.kept kk2)
  have HR2 := Lib.hid (show RW (.slice A s.wait.length cap) q.wait w2 from by rw [HCW.out]; exact HR.out.kept kk2)
  have hs2 : B ≤ w2.heap.size := Nat.le_trans hB (Nat.le_of_lt (Nat.lt_trans (by omega) S2.out.h6.lt))
  clear o2 b2 kk2
  rw [HA.out]
  have k0 := S2.out.k0; have k1 := S2.out.k1; have k2 := S2.out.k2; have k3 := S2.out.k3; have k4 := S2.out.k4; have k5 := S2.out.k5; have kf := S2.out.h4.frozen
  have a0 := S2.out.a0; have a1 := S2.out.a1; have a2 := S2.out.a2; have a3 := S2.out.a3
  have z0 := S2.out.z0; have z1 := S2.out.z1; have z2 := S2.out.z2; have z3 := S2.out.z3; have z4 := S2.out.z4; have z5 := S2.out.z5; have zf := S2.out.h6.frozen
  go_wp2_with fail
  refine (rPut_calls n q _ at_ t HGQ.out _ HR2.out).mono ?_
  rintro e w3 ⟨v3, rfl, r3, b3⟩
  obtain ⟨A3, cap3, rfl, -⟩ := r3.row
  have S3 := Lib.hid (S2.out.kept (Kept.of_below b3))
  have HP := Lib.hid (show PlI B d L (wrote s at_ t) (.slice A3 (wrote q at_ t).wait.length cap3) w.heap.size (w.heap.size + 2) w w3 from
    ⟨O2.out.below b3, by
      have e : (wrote q at_ t).wait = (wrote s at_ t).wait := by rw [← HC.out.1, canon_wait]
      rw [e] at r3 ⊢
      exact r3, B2.out.trans (b3.mono hs2), ((Kept.of_below HB0.out).trans KK2.out).trans (Kept.of_below b3), ⟨_, S3.out.h4⟩, ⟨_, S3.out.h6⟩⟩)
  have HQ := Lib.hid (show canon (wrote s at_ t) = wrote q at_ t from HC.out.1)
  clear r3 b3 k0 k1 k2 k3 k4 k5 kf a0 a1 a2 a3 z0 z1 z2 z3 z4 z5 zf
  unfold RD
  have k0 := S3.out.k0; have k1 := S3.out.k1; have k2 := S3.out.k2; have k3 := S3.out.k3; have k4 := S3.out.k4; have k5 := S3.out.k5; have kf := S3.out.h4.frozen
  have a0 := S3.out.a0; have a1 := S3.out.a1; have a2 := S3.out.a2; have a3 := S3.out.a3
  have z0 := S3.out.z0; have z1 := S3.out.z1; have z2 := S3.out.z2; have z3 := S3.out.z3; have z4 := S3.out.z4; have z5 := S3.out.z5; have zf := S3.out.h6.frozen
  generalize wrote q at_ t = q3 at *
  generalize ans q at_ t = r3 at *
  go_wp2_with fail
  refine bodyPost_ret (v := .tuple #[RD q3 (.slice A3 q3.wait.length cap3), .bool true]) (by simp [results, Try.results52, go_sem, RD, z0, z1, z2, z3, z4, z5]) rfl ?_
  have h := ((HP.out.six hB (Nat.le_refl _) (by omega) (.string (Oct.bs q3.last)) (.slice A3 q3.wait.length cap3) (.bool q3.on) (.bool q3.armed) (.int .i64 q3.syncs) (.int .i64 q3.cut)).swap).six hB (by omega) (by omega) (.string (Oct.bs q3.last)) (.slice A3 q3.wait.length cap3) (.bool q3.on) (.bool q3.armed) (.int .i64 q3.syncs) (.int .i64 q3.cut)
  exact h.post (by rw [HQ.out])
theorem canon_read (s : DSt) (k : Int) : readOf s k = readOf (canon s) k := by unfold readOf; rw [canon_chk, canon_last, canon_wait]
theorem rRead_any (n : Nat) (s : DSt) (v : Value) (k : Int) (hs : Good n s) (w : World) (hr : RW v s.wait w) :
    Calls Try.prog 79 #[RD s v, .int .i64 k] w fun e w' => e = .returned (.tuple #[.string (readOf s k), .int .i64 (chk s k)]) ∧ Below w.heap.size w w' := rRead_calls n s v k hs w hr
set_option maxRecDepth 100000 in
set_option maxHeartbeats 2000000 in
theorem do_read (B d L n : Nat) (s : DSt) (v : Value) (x : DAct) (hk : x.kind.toNat % 8 = 4) (hx : x.Ok) (hs : Good n s) (hn : s.wait.length + 1 ≤ 100000) (_ : Inv s) (w : World) (hB : B ≤ w.heap.size) (h1 : One B d L s w) (hr : RW v s.wait w) :
    Calls Try.prog 52 #[.pointer (some ⟨d, 0, none⟩), RD (canon s) v, .agg (actCells x)] w (DoPost B d L (s) w) := by
  obtain ⟨A, cap, rfl, -⟩ := hr.row
  have HS0 := Lib.hid (DoS.start (canon s) (.slice A s.wait.length cap) x w)
  have HB0 := Lib.hid (DoW.below (canon s) (.slice A s.wait.length cap) x w)
  have HR := Lib.hid (hr.below HB0.out)
  have HO := Lib.hid (h1.below HB0.out)
  have HG := Lib.hid hs
  have HX := Lib.hid hx
  have HN := Lib.hid hn
  have HC := Lib.hid (And.intro (canon_read s x.at_) (canon_chk s x.at_).symm)
  have gq := hs.canon
  have HGQ := Lib.hid gq
  have hcw : (canon s).wait = s.wait := canon_wait s
  have HCW := Lib.hid hcw
  clear gq hcw hs hx h1 hr hn
  unfold RD
  generalize hqq : canon s = q at *
  have HQ0 := Lib.hid hqq
  clear hqq
  obtain ⟨kd, at_, ct, t⟩ := x
  unfold DoW RCells actCells zeroR at HB0 HR HO HS0
  unfold actCells
  simp only at hk HX HB0 HR HO HS0 HC ⊢
  go_enter Try.func52, Try.ntmps52
  have hk' : (kd.toNat : Int) % 8 = 4 := by omega
  go_wp2_with fail
  refine (HO.out.calls fun v1 hd => (Read_any _ _ _ n v1 _ at_ HG.out _ hd).mono fun _ _ h => post_of_below hd h.1 h.2).mono ?_
  rintro e w2 ⟨rfl, o2, b2, kk2⟩
  have O2 := Lib.hid o2
  have KK2 := Lib.hid kk2
  have B2 := Lib.hid ((HB0.out.mono hB).trans b2)
  have S2 := Lib.hid (HS0.out.kept kk2)
  have HR2 := Lib.hid (show RW (.slice A s.wait.length cap) q.wait w2 from by rw [HCW.out]; exact HR.out.kept kk2)
  have hs2 : B ≤ w2.heap.size := Nat.le_trans hB (Nat.le_of_lt (Nat.lt_trans (by omega) S2.out.h6.lt))
  clear o2 b2 kk2
  rw [HC.out.1, HC.out.2]
  have k0 := S2.out.k0; have k1 := S2.out.k1; have k2 := S2.out.k2; have k3 := S2.out.k3; have k4 := S2.out.k4; have k5 := S2.out.k5; have kf := S2.out.h4.frozen
  have a0 := S2.out.a0; have a1 := S2.out.a1; have a2 := S2.out.a2; have a3 := S2.out.a3
  have z0 := S2.out.z0; have z1 := S2.out.z1; have z2 := S2.out.z2; have z3 := S2.out.z3; have z4 := S2.out.z4; have z5 := S2.out.z5; have zf := S2.out.h6.frozen
  go_wp2_with fail
  refine (rRead_any n q _ at_ HGQ.out _ HR2.out).mono ?_
  rintro e w3 ⟨rfl, b3⟩
  have S3 := Lib.hid (S2.out.kept (Kept.of_below b3))
  have HP := Lib.hid (show PlI B d L s (.slice A s.wait.length cap) w.heap.size (w.heap.size + 2) w w3 from
    ⟨O2.out.below b3, by have h := HR2.out; rw [HCW.out] at h; exact h.below b3, B2.out.trans (b3.mono hs2), ((Kept.of_below HB0.out).trans KK2.out).trans (Kept.of_below b3), ⟨_, S3.out.h4⟩, ⟨_, S3.out.h6⟩⟩)
  clear b3 k0 k1 k2 k3 k4 k5 kf a0 a1 a2 a3 z0 z1 z2 z3 z4 z5 zf
  have k0 := S3.out.k0; have k1 := S3.out.k1; have k2 := S3.out.k2; have k3 := S3.out.k3; have k4 := S3.out.k4; have k5 := S3.out.k5; have kf := S3.out.h4.frozen
  have a0 := S3.out.a0; have a1 := S3.out.a1; have a2 := S3.out.a2; have a3 := S3.out.a3
  have z0 := S3.out.z0; have z1 := S3.out.z1; have z2 := S3.out.z2; have z3 := S3.out.z3; have z4 := S3.out.z4; have z5 := S3.out.z5; have zf := S3.out.h6.frozen
  generalize readOf q at_ = x1 at *
  generalize chk q at_ = x2 at *
  go_wp2_with fail
  refine bodyPost_ret (v := .tuple #[RD q (.slice A s.wait.length cap), .bool true]) (by simp [results, Try.results52, go_sem, RD, z0, z1, z2, z3, z4, z5]) rfl ?_
  have h := (HP.out.swap).six hB (by omega) (by omega) (.string (Oct.bs q.last)) (.slice A s.wait.length cap) (.bool q.on) (.bool q.armed) (.int .i64 q.syncs) (.int .i64 q.cut)
  exact h.post (by rw [HQ0.out])
theorem do_any (B d L n : Nat) (s : DSt) (v : Value) (x : DAct) (hx : x.Ok) (hs : Good n s) (hn : s.wait.length + 1 ≤ 100000) (hi : Inv s) (w : World) (hB : B ≤ w.heap.size) (h1 : One B d L s w) (hr : RW v s.wait w) :
    Calls Try.prog 52 #[.pointer (some ⟨d, 0, none⟩), RD (canon s) v, .agg (actCells x)] w (DoPost B d L (step s x) w) := by
  unfold step
  split
  · exact do_sync B d L n s v x ‹_› hx hs hn hi w hB h1 hr
  · split
    · exact do_read B d L n s v x ‹_› hx hs hn hi w hB h1 hr
    · split
      · exact do_arm B d L n s v x ‹_› hx hs hn hi w hB h1 hr
      · split
        · exact do_down B d L n s v x ‹_› hx hs hn hi w hB h1 hr
        · split
          · exact do_up B d L n s v x ‹_› hx hs hn hi w hB h1 hr
          · exact do_write B d L n s v x (by omega) hx hs hn hi w hB h1 hr
theorem step_inv (n : Nat) (s : DSt) (x : DAct) (hx : x.Ok) (hs : Good n s) (hi : Inv s) (hn : s.wait.length + 1 ≤ 100000) : Good n (step s x) ∧ Inv (step s x) ∧ (step s x).wait.length ≤ s.wait.length + 1 := by
  unfold step
  split
  · refine ⟨?_, (canon_sync n s hs hi).2.2, ?_⟩
    · unfold synced
      split
      · split
        · exact hs.down _
        · exact ⟨(fun x hx => by cases hx), all_length n _ _ hs.len hs.fits, hs.hn, Nat.zero_le _, by have h := hs.syncs; show 0 ≤ max 0 (s.syncs - 1) ∧ max 0 (s.syncs - 1) ≤ _; omega, hs.cut⟩
      · exact hs
    · unfold synced down
      split
      · split
        · first | simp | (split <;> simp)
        · simp
      · simp
  · split
    · exact ⟨hs, hi, by omega⟩
    · split
      · refine ⟨?_, (canon_arm s _ _ hi).2, ?_⟩
        · unfold armed
          split
          · have h1 := hx.1; have h2 := hx.2.1
            exact ⟨hs.fits, hs.len, hs.hn, hs.many, by show 0 ≤ max 0 x.at_ ∧ max 0 x.at_ ≤ _; omega, by show 0 ≤ max 0 x.cut ∧ max 0 x.cut ≤ _; omega⟩
          · exact hs
        · unfold armed
          split <;> simp
      · split
        · exact ⟨hs.down _, (canon_down s _ hi).2, by unfold down; split <;> simp⟩
        · split
          · refine ⟨?_, (canon_up s hi).2, ?_⟩
            · unfold upped
              split
              · exact hs
              · exact ⟨hs.fits, hs.len, hs.hn, hs.many, by simp, by simp⟩
            · unfold upped
              split <;> simp
          · exact ⟨hs.wrote _ _ hn, (canon_wrote s _ _ hi).2, by unfold wrote; split <;> simp⟩
end Go.Proofs.Ytopacbmdoognjaa.Disk
/- No disk at all: the walks with nil. -/
namespace Go.Proofs.Ytopacbmdoognjaa.Disk
open Go Go.RowKit Frame
theorem Blocks_nil (w : World) : Calls Try.prog 49 #[.pointer none] w fun e w' => e = .returned (.int .i64 0) ∧ w = w' := by
  go_enter Try.func49, Try.ntmps49
  go_wp2_with fail
  go_ret
  exact ⟨rfl, rfl⟩
theorem On_nil (w : World) : Calls Try.prog 33 #[.pointer none] w fun e w' => e = .returned (.bool false) ∧ w = w' := by
  go_enter Try.func33, Try.ntmps33
  go_wp2_with fail
  go_ret
  exact ⟨rfl, rfl⟩
theorem Waits_nil (w : World) : Calls Try.prog 34 #[.pointer none] w fun e w' => e = .returned (.int .i64 0) ∧ w = w' := by
  go_enter Try.func34, Try.ntmps34
  go_wp2_with fail
  go_ret
  exact ⟨rfl, rfl⟩
theorem Lasts_nil (w : World) : Calls Try.prog 30 #[.pointer none] w fun e w' => e = .returned (.string ⟨#[]⟩) ∧ w = w' := by
  go_enter Try.func30, Try.ntmps30
  go_wp2_with fail
  go_ret
  exact ⟨rfl, rfl⟩
theorem Sync_nil (w : World) : Calls Try.prog 29 #[.pointer none] w fun e w' => e = .returned (.int .i64 1) ∧ w = w' := by
  go_enter Try.func29, Try.ntmps29
  go_wp2_with fail
  go_ret
  exact ⟨rfl, rfl⟩
theorem Arm_nil (w : World) : Calls Try.prog 31 #[.pointer none, .int .i64 0, .int .i64 0] w fun e w' => e = .returned (.tuple #[]) ∧ w = w' := by
  go_enter Try.func31, Try.ntmps31
  go_wp2_with fail
  go_end0
  exact ⟨rfl, rfl⟩
theorem Down_nil (w : World) : Calls Try.prog 28 #[.pointer none, .int .i64 0] w fun e w' => e = .returned (.tuple #[]) ∧ w = w' := by
  go_enter Try.func28, Try.ntmps28
  go_wp2_with fail
  go_end0
  exact ⟨rfl, rfl⟩
theorem Up_nil (w : World) : Calls Try.prog 32 #[.pointer none] w fun e w' => e = .returned (.tuple #[]) ∧ w = w' := by
  go_enter Try.func32, Try.ntmps32
  go_wp2_with fail
  go_end0
  exact ⟨rfl, rfl⟩
theorem check_nil (w : World) : Calls Try.prog 76 #[.pointer none, .int .i64 0] w fun e w' => e = .returned (.int .i64 1) ∧ w = w' := by
  go_enter Try.func76, Try.ntmps76
  go_wp2_with fail
  go_ret
  exact ⟨rfl, rfl⟩
theorem Read_nil (w : World) : Calls Try.prog 54 #[.pointer none, .int .i64 0] w fun e w' => e = .returned (.tuple #[.string ⟨#[]⟩, .int .i64 1]) ∧ w = w' := by
  go_enter Try.func54, Try.ntmps54
  go_wp2_with fail
  refine (check_nil _).mono ?_
  rintro e w1 ⟨rfl, rfl⟩
  go_wp2_with fail
  go_ret2
  exact ⟨rfl, rfl⟩
theorem Write_nil (w : World) : Calls Try.prog 27 #[.pointer none, .int .i64 0, .string ⟨#[]⟩] w fun e w' => e = .returned (.int .i64 1) ∧ w = w' := by
  go_enter Try.func27, Try.ntmps27
  go_wp2_with fail
  refine (check_nil _).mono ?_
  rintro e w1 ⟨rfl, rfl⟩
  go_wp2_with fail
  go_ret
  exact ⟨rfl, rfl⟩
end Go.Proofs.Ytopacbmdoognjaa.Disk
/- The walk of DiskPlays. -/
namespace Go.Proofs.Ytopacbmdoognjaa.Disk
open Go Go.RowKit Frame
/-- Behind some acts: both disks. -/
structure PlayI (W : World) (d L n k : Nat) (s : DSt) (v : Value) (w : World) : Prop where
  good : Good n s
  inv : Inv s
  many : s.wait.length ≤ k
  one : One W.heap.size d L s w
  rw_ : RW v s.wait w
  bel : Below W.heap.size W w
theorem One.set6_other {base d L : Nat} {s : DSt} {w : World} (h : One base d L s w) {m : Nat} {cs : Array Value} {t : TypeId} (hm : Has m cs t w) (h1 : t ≠ 112) (h2 : t ≠ 5) (h3 : t ≠ 115) (v0 v1 v2 v3 v4 v5 : Value) : One base d L s (set6 w m v0 v1 v2 v3 v4 v5) :=
  (((((h.set_other hm h1 h2 h3 v0).set_other (hm.set v0) h1 h2 h3 v1).set_other ((hm.set v0).set v1) h1 h2 h3 v2).set_other (((hm.set v0).set v1).set v2) h1 h2 h3 v3).set_other ((((hm.set v0).set v1).set v2).set v3) h1 h2 h3 v4).set_other (((((hm.set v0).set v1).set v2).set v3).set v4) h1 h2 h3 v5
/-- At the head of the loop: besides, the document's disk in its block. -/
structure PlayJ (W : World) (d L n p k : Nat) (s : DSt) (v : Value) (w : World) : Prop where
  i : PlayI W d L n k s v w
  q : RHas p (canon s) v w
  hp : W.heap.size ≤ p
theorem RHas.below {b : Nat} {s : DSt} {v : Value} {w w' : World} (h : RHas b s v w) (hb : Below w.heap.size w w') : RHas b s v w' := Has.below h hb
theorem RHas.kept {b : Nat} {s : DSt} {v : Value} {w w' : World} (h : RHas b s v w) (hb : Kept w w') : RHas b s v w' := hb _ _ _ (by decide) (by decide) (by decide) h
theorem PlayI.below {W : World} {d L n k : Nat} {s : DSt} {v : Value} {w w' : World} (h : PlayI W d L n k s v w) (hb : Below w.heap.size w w') : PlayI W d L n k s v w' :=
  ⟨h.good, h.inv, h.many, h.one.below hb, h.rw_.below hb, bthen h.bel hb⟩
set_option maxRecDepth 100000 in
set_option maxHeartbeats 4000000 in
theorem DiskPlays_walk (blocks : Int) (A : Option Addr) (c : Nat) (l : List DAct) (W : World) (hA : Acts W.heap.size A l W) (hO : ∀ x ∈ l, x.Ok) (hl : l.length ≤ maxLen) :
    Calls Try.prog 10 #[.int .i64 blocks, .slice A l.length c] W fun e w' => e = .returned (.bool true) ∧ Below W.heap.size W w' := by
  have HA := Lib.hid hA
  have HL := Lib.hid hl
  have HO := Lib.hid hO
  clear hA hO hl
  obtain ⟨m, hm⟩ : ∃ m : Nat, max 0 (min blocks 4096) = (m : Int) := ⟨(max 0 (min blocks 4096)).toNat, by omega⟩
  obtain ⟨n, hn⟩ : ∃ n : Nat, heldN blocks 8 = (n : Int) := ⟨(max 0 (min blocks 8)).toNat, by unfold heldN; omega⟩
  have hn8 : n ≤ 8 := by unfold heldN at hn; omega
  have HM := Lib.hid hm
  have HN := Lib.hid hn
  have HM2 := Lib.hid (show heldN blocks 4096 = (m : Int) from hm)
  have hmm : m ≤ 4096 := by omega
  clear hm hn
  go_enter Try.func10, Try.ntmps10
  go_wp2_with fail
  refine (awake_calls _).mono ?_
  rintro e w1 ⟨rfl, b1⟩
  have B1 := Lib.hid b1
  have HA1 := Lib.hid ((HA.out.below b1).more b1.size)
  clear b1
  go_wp2_with fail
  refine (Light_calls A c l _ HA1.out HL.out).mono ?_
  rintro e w2 ⟨rfl, b2⟩
  have B2 := Lib.hid (bthen B1.out b2)
  clear b2
  cases hL : lightB l with
  | false =>
    go_wp2_with fail
    go_ret
    exact ⟨rfl, B2.out⟩
  | true =>
    have HT := Lib.hid (light_iff hL)
    clear hL
    have hlen := HT.out.1
    go_wp2_with fail
    refine (New_any blocks m HM.out _).mono ?_
    rintro e w3 ⟨rfl, o3, b3⟩
    have B3 := Lib.hid (bthen B2.out b3)
    obtain ⟨v3, h3⟩ := o3
    have H3 := Lib.hid h3
    clear b3 h3
    go_wp2_with fail
    have hfl : (fresh m).last.length = 64 * m := by simp [fresh]
    have HFL := Lib.hid hfl
    refine (Blocks_calls _ _ _ v3 (fresh m) (by rw [HFL.out]; omega) _ H3.out).mono ?_
    rintro e w4 ⟨rfl, rfl⟩
    rw [HFL.out, show ((64 * m : Nat) : Int) / 64 = (m : Int) by omega]
    clear hfl
    go_wp2_with fail
    refine (Held_calls _ _ _).mono ?_
    rintro e w4 ⟨rfl, rfl⟩
    rw [HM2.out]
    go_wp2_with fail
    refine (Held_calls _ _ _).mono ?_
    rintro e w4 ⟨rfl, rfl⟩
    rw [HN.out]
    go_wp2_with fail
    refine (New_one n (by omega) _).mono ?_
    rintro e w4 ⟨rfl, o4, b4⟩
    have O4 := Lib.hid (o4.base B3.out.size)
    have B4 := Lib.hid (bthen B3.out b4)
    have h34 := b4.size
    clear o4 b4
    go_wp2_with fail
    refine (rNew_calls n (by omega) _).mono ?_
    rintro e w5 ⟨rfl, b5⟩
    have HI := Lib.hid (show PlayI W (w3.heap.size + 1) w3.heap.size n 0 (fresh n) (.slice none 0 0) w5 from
      ⟨Good.fresh n (by omega), ⟨fun e => by simp [fresh] at e, fun _ _ => rfl⟩, Nat.le_refl _, O4.out.below b5, RW.nil _, bthen B4.out b5⟩)
    have hs5 := b5.size
    have hW3 := B3.out.size
    clear b5
    generalize w3.heap.size + 1 = d at *
    generalize w3.heap.size = L at *
    have HCF := Lib.hid (show canon (fresh n) = fresh n from rfl)
    have HJ := Lib.hid (show PlayJ W d L n w5.heap.size 0 (fresh n) (.slice none 0 0) (w5.alloc (.cells (RCells (fresh n) (.slice none 0 0)) 63)) from
      ⟨HI.out.below ((Below.refl _ _).alloc (Nat.le_refl _) _), by rw [HCF.out]; exact RHas.new _ _ _, by omega⟩)
    unfold RD
    unfold RCells at HJ
    go_wp2_with fail
    generalize w5.alloc (.cells #[.string (Oct.bs (fresh n).last), .slice none 0 0, .bool (fresh n).on, .bool (fresh n).armed, .int .i64 (fresh n).syncs, .int .i64 (fresh n).cut] 63) = w6 at *
    generalize w5.heap.size = p at *
    go_loopw [34] (fun i wr => ∃ (k : Nat) (s : DSt) (v : Value), k ≤ l.length ∧ i = .int .i64 k ∧ Hid (PlayJ W d L n p k s v wr)) (fun i _ => l.length - (intOf i).toNat)
    case atStart => exact ⟨0, _, _, by omega, rfl, HJ⟩
    case round =>
      obtain ⟨k, s, v, hk, rfl, hI⟩ := hrel
      by_cases hlt : k < l.length
      · obtain ⟨b, off, rfl, hbl, hi⟩ := (HA.out.below hI.out.i.bel) (by omega)
        obtain ⟨r0, r1, r2, r3⟩ := hi k hlt
        clear hi
        have HXO := Lib.hid (HO.out _ (getD_mem l k hlt))
        generalize l.getD k default = x at *
        have hfz := hI.out.i.many
        have hst := step_inv n s x HXO.out hI.out.i.good hI.out.i.inv (by omega)
        have HST := Lib.hid hst
        have hmany := hst.2.2
        clear hst
        have HXB := Lib.hid (((Below.refl wr.heap.size wr).alloc (Nat.le_refl _) (.cells #[.int .u8 x.kind.toNat, .int .i64 x.at_, .int .i64 x.cut, .string x.text] 42)))
        have HDO := Lib.hid (do_any W.heap.size d L n s v x HXO.out hI.out.i.good (by omega) hI.out.i.inv (wr.alloc (.cells #[.int .u8 x.kind.toNat, .int .i64 x.at_, .int .i64 x.cut, .string x.text] 42)) (by have := hI.out.i.bel.size; simp; omega) (hI.out.i.one.below HXB.out) (hI.out.i.rw_.below HXB.out))
        have HQ := Lib.hid (hI.out.q.below HXB.out)
        have HBX := Lib.hid (bthen hI.out.i.bel HXB.out)
        have hhp := hI.out.hp
        have k0 := HQ.out.c0; have k1 := HQ.out.c1; have k2 := HQ.out.c2; have k3 := HQ.out.c3; have k4 := HQ.out.c4; have k5 := HQ.out.c5
        have hpl := Has.lt hI.out.q
        obtain ⟨Av, capv, rfl, -⟩ := hI.out.i.rw_.row
        unfold RD actCells at HDO
        generalize hqq : canon s = q at *
        clear hqq
        go_wp2_with fail
        refine HDO.out.mono ?_
        rintro e w7 ⟨v', rfl, o7, r7, b7, kk7⟩
        obtain ⟨A7, cap7, rfl, -⟩ := r7.row
        have HP7 := Lib.hid (HQ.out.kept kk7)
        have hI7 : PlayI W d L n (k + 1) (step s x) (.slice A7 (step s x).wait.length cap7) w7 := ⟨HST.out.1, HST.out.2.1, by omega, o7, r7, HBX.out.trans b7⟩
        have HI7 := Lib.hid hI7
        have hs7 : W.heap.size ≤ w7.heap.size := hI7.bel.size
        have hps7 : p < w7.heap.size := Has.lt HP7.out
        clear o7 r7 b7 kk7 hI7 k0 k1 k2 k3 k4 k5 HST HDO HQ HBX HXB
        generalize step s x = s7 at *
        obtain ⟨ar, sy, ct, hq⟩ : ∃ ar sy ct, canon s7 = ⟨s7.last, s7.wait, s7.on, ar, sy, ct⟩ := ⟨(canon s7).armed, (canon s7).syncs, (canon s7).cut, by
          have e1 := canon_last s7
          have e2 := canon_is s7
          have e3 := canon_wait s7
          generalize canon s7 = q at *
          obtain ⟨a, b, c, d, e, f⟩ := q
          simp only at e1 e2 e3
          subst e1 e2 e3
          rfl⟩
        have HQ7 := Lib.hid hq
        have HRD := Lib.hid (show RD (canon s7) (.slice A7 s7.wait.length cap7) = .agg #[.string (Oct.bs s7.last), .slice A7 s7.wait.length cap7, .bool s7.on, .bool ar, .int .i64 sy, .int .i64 ct] by rw [hq]; rfl)
        clear hq
        have HN7 := Lib.hid (RHas.new w7 ⟨s7.last, s7.wait, s7.on, ar, sy, ct⟩ (.slice A7 s7.wait.length cap7))
        have HWT := Lib.hid (fun W h => rWaits_calls n ⟨s7.last, s7.wait, s7.on, ar, sy, ct⟩ (.slice A7 s7.wait.length cap7) HI7.out.good.fits HI7.out.good.many W h)
        unfold RD at HWT
        unfold RCells at HN7
        simp only at HWT HN7
        rw [HRD.out]
        go_wp2_with fail
        have HB8 := Lib.hid ((Below.refl w7.heap.size w7).alloc (Nat.le_refl _) (.cells #[.string (Oct.bs s7.last), .slice A7 s7.wait.length cap7, .bool s7.on, .bool ar, .int .i64 sy, .int .i64 ct] 63))
        have HI8 := Lib.hid (HI7.out.below HB8.out)
        have HP8 := Lib.hid (HP7.out.below HB8.out)
        generalize w7.alloc (.cells #[.string (Oct.bs s7.last), .slice A7 s7.wait.length cap7, .bool s7.on, .bool ar, .int .i64 sy, .int .i64 ct] 63) = w8 at *
        generalize w7.heap.size = P at *
        have HI9 := Lib.hid (HI8.out.below (Below.drew (Below.refl _ _)))
        have HN9 := Lib.hid (show RHas P ⟨s7.last, s7.wait, s7.on, ar, sy, ct⟩ (.slice A7 s7.wait.length cap7) w8.drew from HN7.out.drew)
        obtain ⟨v8, hd8⟩ := HI9.out.one
        have HD8 := Lib.hid hd8
        have hl8 : s7.last.length = 64 * n := HI9.out.good.len
        have hdv : ((64 * n : Nat) : Int) / 64 = (n : Int) := by omega
        have HLV := Lib.hid (show (s7.last.length : Int) / 64 = (n : Int) by rw [hl8]; omega)
        have HL8 := Lib.hid (show s7.last.length ≤ 262144 by omega)
        clear hd8 hl8 hdv
        have y0 := HN9.out.c0; have y1 := HN9.out.c1; have y2 := HN9.out.c2; have y3 := HN9.out.c3; have y4 := HN9.out.c4; have y5 := HN9.out.c5
        simp only at y0 y2 y3 y4 y5
        go_region_held3 (fun w' => w'.cell? ⟨P, 0, none⟩ = some (.string (Oct.bs s7.last)) ∧ w'.cell? ⟨P, 1, none⟩ = some (.slice A7 s7.wait.length cap7) ∧ w'.cell? ⟨P, 2, none⟩ = some (.bool s7.on) ∧ w'.cell? ⟨P, 3, none⟩ = some (.bool ar) ∧ w'.cell? ⟨P, 4, none⟩ = some (.int .i64 sy) ∧ w'.cell? ⟨P, 5, none⟩ = some (.int .i64 ct))
          (first
            | exact ⟨y0, y1, y2, y3, y4, y5⟩
            | (have h := (HN9.out.below b9).below b10; exact ⟨h.c0, h.c1, h.c2, h.c3, h.c4, h.c5⟩)
            | (have h := HN9.out.below b9; exact ⟨h.c0, h.c1, h.c2, h.c3, h.c4, h.c5⟩))
          (first
            | (go_at_call 30; refine (Lasts_calls _ _ _ v8 _ _ HD8.out).mono ?_; rintro e w9 ⟨rfl, rfl⟩)
            | (go_at_call 34; refine (Waits_calls _ _ _ n v8 _ HI9.out.good.fits HI9.out.good.many _ HD8.out).mono ?_; rintro e w9 ⟨rfl, b9⟩)
            | (go_at_call 53; refine (HWT.out _ (HI9.out.rw_.below b9)).mono ?_; rintro e w10 ⟨rfl, b10⟩)
            | (go_at_call 33; refine (On_calls _ _ _ v8 _ _ ((HD8.out.below b9).below b10)).mono ?_; rintro e w11 ⟨rfl, rfl⟩)
            | (go_at_call 49; refine (Blocks_calls _ _ _ v8 _ HL8.out _ ((HD8.out.below b9).below b10)).mono ?_; rintro e w11 ⟨rfl, rfl⟩))
        have hlv := HLV.out
        have HN10 := Lib.hid ((HN9.out.below b9).below b10)
        have HP10 := Lib.hid (((HP8.out.below (Below.drew (Below.refl _ _))).below b9).below b10)
        have HI10 := Lib.hid ((HI9.out.below b9).below b10)
        clear y0 y1 y2 y3 y4 y5 b9 b10
        have y0 := HN10.out.c0; have y1 := HN10.out.c1; have y2 := HN10.out.c2; have y3 := HN10.out.c3; have y4 := HN10.out.c4; have y5 := HN10.out.c5
        simp only at y0 y2 y3 y4 y5
        have k0 := HP10.out.c0; have k1 := HP10.out.c1; have k2 := HP10.out.c2; have k3 := HP10.out.c3; have k4 := HP10.out.c4; have k5 := HP10.out.c5
        have kf := Has.frozen HP10.out
        go_wp2_with fail
        have HF := Lib.hid (show PlayJ W d L n p (k + 1) s7 (.slice A7 s7.wait.length cap7) (set6 w10 p (.string (Oct.bs s7.last)) (.slice A7 s7.wait.length cap7) (.bool s7.on) (.bool ar) (.int .i64 sy) (.int .i64 ct)) from by
          have hh := HP10.out
          have hi := HI10.out
          have h2 := ((((((Has.set (i := 0) hh (.string (Oct.bs s7.last))).set (i := 1) (.slice A7 s7.wait.length cap7)).set (i := 2) (.bool s7.on)).set (i := 3) (.bool ar)).set (i := 4) (.int .i64 sy)).set (i := 5) (.int .i64 ct))
          refine ⟨⟨hi.good, hi.inv, hi.many, hi.one.set6_other hh (by decide) (by decide) (by decide) _ _ _ _ _ _, hi.rw_.set6 (hi.rw_.apart hh (by decide)) _ _ _ _ _ _, below6 hi.bel hI.out.hp _ _ _ _ _ _⟩, ?_, hI.out.hp⟩
          rw [HQ7.out]
          unfold RHas set6
          simpa [RCells] using h2)
        unfold set6 at HF
        exact ⟨⟨k + 1, s7, _, by omega, by go_num, HF⟩, by simp [intOf]; omega⟩
      · obtain rfl : k = l.length := by omega
        have HB := Lib.hid hI.out.i.bel
        go_wp2_with fail
        refine (Arm_nil _).mono ?_
        rintro e w7 ⟨rfl, rfl⟩
        go_wp2_with fail
        refine (Down_nil _).mono ?_
        rintro e w7 ⟨rfl, rfl⟩
        go_wp2_with fail
        refine (Up_nil _).mono ?_
        rintro e w7 ⟨rfl, rfl⟩
        go_wp2_with fail
        refine (Read_nil _).mono ?_
        rintro e w7 ⟨rfl, rfl⟩
        go_wp2_with fail
        refine (Write_nil _).mono ?_
        rintro e w7 ⟨rfl, rfl⟩
        go_wp2_with fail
        refine (Sync_nil _).mono ?_
        rintro e w7 ⟨rfl, rfl⟩
        go_wp2_with fail
        refine (Blocks_nil _).mono ?_
        rintro e w7 ⟨rfl, rfl⟩
        go_wp2_with fail
        refine (Waits_nil _).mono ?_
        rintro e w7 ⟨rfl, rfl⟩
        go_wp2_with fail
        refine (Lasts_nil _).mono ?_
        rintro e w7 ⟨rfl, rfl⟩
        go_wp2_with fail
        refine (On_nil _).mono ?_
        rintro e w7 ⟨rfl, rfl⟩
        go_wp2_with fail
        go_ret
        exact ⟨rfl, HB.out⟩
end Go.Proofs.Ytopacbmdoognjaa.Disk
