/- Merged: DiskStep, DiskPlayDo, DiskNil, DiskPlays. -/
import Derived.Test.YtjnjcjildiadgaaDoorDiskR
import Derived.Test.YtjnjcjildiadgaaDoorDiskKept
/- Disk.Read whatever is asked, New of any number; acts, plainly: the program's disk and the document's. -/
namespace Go.Proofs.YtjnjcjildiadgaaDoor.Disk
open Go Go.RowKit Frame
def readOf (s : DSt) (k : Int) : ByteArray := if chk s k = 0 then Oct.bs (blk (all s.last s.wait) k.toNat) else ⟨#[]⟩
set_option maxHeartbeats 1000000 in
theorem Read_any (base d L n : Nat) (wv : Value) (s : DSt) (k : Int) (hs : Good n s) (w : World) (h : Dk base d L wv s w) :
    Calls Tryd.prog 43 #[.pointer (some ⟨d, 0, none⟩), .int .i64 k] w fun e w' => e = .returned (.tuple #[.string (readOf s k), .int .i64 (chk s k)]) ∧ Below w.heap.size w w' := by
  have hl : s.last.length ≤ 262144 := by have := hs.len; have := hs.hn; omega
  by_cases hc : chk s k = 0
  · obtain ⟨_, h3, _⟩ := chk_zero hc
    rw [readOf, if_pos hc, hc]
    obtain ⟨q, rfl⟩ := Int.eq_ofNat_of_zero_le h3
    exact Read_yes base d L n wv s q hc hs w h
  · have HC := Lib.hid (check_calls base d L wv s k hl _ h)
    rw [readOf, if_neg hc]
    generalize chk s k = c at *
    have h' : (c != 0) = true := by simpa using hc
    clear hc h
    go_enter Tryd.func43, Tryd.ntmps43
    go_wp2_with fail
    refine HC.out.mono ?_
    rintro e w1 ⟨rfl, rfl⟩
    go_wp2_with fail
    go_ret2
    exact ⟨rfl, Below.refl _ _⟩
set_option maxRecDepth 100000 in
set_option maxHeartbeats 1000000 in
theorem New_any (b : Int) (m : Nat) (hm : max 0 (min b 4096) = (m : Int)) (w : World) :
    Calls Tryd.prog 7 #[.int .i64 b] w fun e w' => e = .returned (.pointer (some ⟨w.heap.size + 1, 0, none⟩)) ∧ One w.heap.size (w.heap.size + 1) w.heap.size (fresh m) w' ∧ Below w.heap.size w w' := by
  have HD := Lib.hid (Dk.start m w)
  have HB := Lib.hid (show Below w.heap.size w _ from ((Below.refl _ w).alloc (Nat.le_refl _) (.cells (madeCells #[.int .u8 0] (64 * m)) 5)).alloc (by simp) (.cells #[.slice (some ⟨w.heap.size, 0, none⟩) (64 * m) (64 * m), .slice none 0 0, .bool true, .bool false, .int .i64 0, .int .i64 0] 55))
  have hmm : m ≤ 4096 := by omega
  have hmk := fun W => run_make_row' (P := Tryd.prog) 52 5 (.int .u8 0) 1 Tryd.underlying52 infoU8 rfl .i64 .i64 (64 * m) (by omega) (by omega) W
  have ec : ((64 * m : Nat) : Int) = 64 * (m : Int) := by omega
  rw [ec] at hmk
  clear ec
  by_cases h1 : b ≤ 0
  · obtain rfl : m = 0 := by omega
    have em : max 0 (min b 4096) = 0 := by omega
    simp only [Nat.mul_zero, Int.natCast_zero, Int.mul_zero] at hmk
    clear hm
    go_enter Tryd.func7, Tryd.ntmps7
    go_wp2_with fail
    go_ret
    exact ⟨rfl, ⟨_, HD.out⟩, HB.out⟩
  · by_cases h2 : b < 4096
    · obtain rfl : b = (m : Int) := by omega
      have hp : 0 < m := by omega
      go_enter Tryd.func7, Tryd.ntmps7
      go_wp2_with fail
      go_ret
      exact ⟨rfl, ⟨_, HD.out⟩, HB.out⟩
    · obtain rfl : m = 4096 := by omega
      clear hm hmk
      have h3 : 4096 ≤ b := by omega
      have em : min b 4096 = 4096 := by omega
      have em2 : max (0 : Int) 4096 = 4096 := by decide
      have hmk := fun W => run_make_row' (P := Tryd.prog) 52 5 (.int .u8 0) 1 Tryd.underlying52 infoU8 rfl .i64 .i64 262144 (by omega) (by omega) W
      simp only [show ((262144 : Nat) : Int) = 262144 from rfl] at hmk
      have e : 64 * 4096 = 262144 := rfl
      simp only [e] at HD HB
      have HX := Lib.hid (show (⟨List.replicate 262144 0, [], true, false, 0, 0⟩ : DSt) = fresh 4096 from rfl)
      rw [HX.out] at HD
      clear e
      go_enter Tryd.func7, Tryd.ntmps7
      go_wp2_with fail
      go_ret
      exact ⟨rfl, ⟨_, HD.out⟩, HB.out⟩
/-- As the document has a disk: what is off knows of no arming. -/
def canon (s : DSt) : DSt := if s.on then s else ⟨s.last, s.wait, false, false, 0, 0⟩
structure Inv (s : DSt) : Prop where
  off : s.on = false → s.wait = []
  arm : s.on = true → s.armed = false → s.syncs = 0
def step (s : DSt) (x : DAct) : DSt :=
  if x.kind.toNat % 8 = 3 then (synced s).1 else if x.kind.toNat % 8 = 4 then s else if x.kind.toNat % 8 = 5 then armed s x.at_ x.cut else if x.kind.toNat % 8 = 6 then down s x.cut else if x.kind.toNat % 8 = 7 then upped s else wrote s x.at_ x.text
theorem canon_on {s : DSt} (h : s.on = true) : canon s = s := by unfold canon; rw [if_pos h]
theorem canon_off {s : DSt} (h : s.on = false) : canon s = ⟨s.last, s.wait, false, false, 0, 0⟩ := by unfold canon; rw [if_neg (by simp [h])]
theorem canon_last (s : DSt) : (canon s).last = s.last := by unfold canon; split <;> rfl
theorem canon_wait (s : DSt) : (canon s).wait = s.wait := by unfold canon; split <;> rfl
theorem canon_is (s : DSt) : (canon s).on = s.on := by unfold canon; split <;> simp_all
theorem canon_ans (s : DSt) (k : Int) (t : ByteArray) : ans (canon s) k t = ans s k t := ans_congr (canon_is s) (canon_last s) k t
theorem canon_chk (s : DSt) (k : Int) : chk (canon s) k = chk s k := by unfold chk; rw [canon_is, canon_last]
theorem Good.canon {n : Nat} {s : DSt} (h : Good n s) : Good n (canon s) := by
  unfold Disk.canon
  split
  · exact h
  · exact ⟨h.fits, h.len, h.hn, h.many, by simp, by simp⟩
theorem canon_sync (n : Nat) (s : DSt) (hg : Good n s) (h : Inv s) : canon (synced s).1 = (rsync (canon s)).1 ∧ (synced s).2 = (rsync (canon s)).2 ∧ Inv (synced s).1 := by
  rcases (Bool.eq_false_or_eq_true s.on).symm with ho | ho
  · rw [synced_off s ho, canon_off ho, rsync_off _ rfl]
    exact ⟨rfl, rfl, h⟩
  · rw [canon_on ho]
    rcases (Bool.eq_false_or_eq_true s.armed).symm with ha | ha
    · rw [synced_on s ho (.inl ha), rsync_not s ho ha]
      have hz := h.arm ho ha
      have hmx : max (0 : Int) (-1) = 0 := by decide
      refine ⟨?_, rfl, fun e => by simp [ho] at e, fun _ _ => by simp [hz, hmx]⟩
      rw [canon_on (by simp [ho])]
      simp [hz, hmx]
    · by_cases hz : s.syncs = 0
      · rw [synced_gone s ho ha hz, rsync_gone s ho ha hz]
        have e : (down s s.cut).on = false := by simp [down, ho]
        refine ⟨?_, rfl, fun _ => by simp [down, ho], fun e' => by rw [e] at e'; cases e'⟩
        rw [canon_off e]
        simp [down, rdown, ho]
      · rw [synced_on s ho (.inr hz), rsync_armed s ho ha hz]
        have h0 := hg.syncs
        have hmx : max 0 (s.syncs - 1) = s.syncs - 1 := by omega
        refine ⟨?_, rfl, fun e => by simp [ho] at e, fun _ e => by simp [ha] at e⟩
        rw [canon_on (by simp [ho])]
        simp [hmx]
theorem canon_arm (s : DSt) (a b : Int) (h : Inv s) : canon (armed s a b) = armed (canon s) a b ∧ Inv (armed s a b) := by
  rcases (Bool.eq_false_or_eq_true s.on).symm with ho | ho
  · have e : armed s a b = s := by simp [armed, ho]
    rw [e, canon_off ho]
    exact ⟨by simp [armed], h⟩
  · rw [canon_on ho, canon_on (by simp [armed, ho])]
    exact ⟨rfl, fun e => by simp [armed, ho] at e, fun _ e => by simp [armed, ho] at e⟩
theorem canon_down (s : DSt) (c : Int) (h : Inv s) : canon (down s c) = rdown (canon s) c ∧ Inv (down s c) := by
  rcases (Bool.eq_false_or_eq_true s.on).symm with ho | ho
  · have e : down s c = s := by simp [down, ho]
    rw [e, canon_off ho]
    exact ⟨by simp [rdown], h⟩
  · have e : (down s c).on = false := by simp [down, ho]
    rw [canon_on ho, canon_off e]
    exact ⟨by simp [down, rdown, ho], fun _ => by simp [down, ho], fun e' => by rw [e] at e'; cases e'⟩
theorem canon_up (s : DSt) (h : Inv s) : canon (upped s) = rup (canon s) ∧ Inv (upped s) := by
  rcases (Bool.eq_false_or_eq_true s.on).symm with ho | ho
  · have hw := h.off ho
    rw [canon_off ho, canon_on (by simp [upped, ho])]
    exact ⟨by simp [upped, rup, ho, hw], fun e => by simp [upped, ho] at e, fun _ _ => by simp [upped, ho]⟩
  · have e : upped s = s := by simp [upped, ho]
    rw [e, canon_on ho]
    exact ⟨by simp [rup, ho], h⟩
theorem canon_wrote (s : DSt) (k : Int) (t : ByteArray) (h : Inv s) : canon (wrote s k t) = wrote (canon s) k t ∧ Inv (wrote s k t) := by
  by_cases hz : ans s k t = 0
  · have ho := (chk_zero (ans_zero hz).1).1
    have e : wrote s k t = { s with wait := s.wait ++ [(k.toNat, t)] } := by unfold wrote; rw [if_pos hz]
    rw [canon_on ho, e, canon_on (by simp [ho])]
    exact ⟨rfl, fun e => by simp [ho] at e, h.arm⟩
  · rw [wrote_no s k t hz, wrote_no (canon s) k t (by rw [canon_ans]; exact hz)]
    exact ⟨rfl, h⟩
end Go.Proofs.YtjnjcjildiadgaaDoor.Disk
/- The walk of stairwelllaw15.do. -/
namespace Go.Proofs.YtjnjcjildiadgaaDoor.Disk
open Go Go.RowKit Frame
def actCells (x : DAct) : Array Value := #[.int .u8 x.kind.toNat, .int .i64 x.at_, .int .i64 x.cut, .string x.text]
theorem canon_read (s : DSt) (k : Int) : readOf s k = readOf (canon s) k := by unfold readOf; rw [canon_chk, canon_last, canon_wait]
theorem step_inv (n : Nat) (s : DSt) (x : DAct) (hx : x.Ok) (hs : Good n s) (hi : Inv s) (hn : s.wait.length + 1 ≤ 100000) : Good n (step s x) ∧ Inv (step s x) ∧ (step s x).wait.length ≤ s.wait.length + 1 := by
  unfold step
  split
  · refine ⟨?_, (canon_sync n s hs hi).2.2, ?_⟩
    · unfold synced
      split
      · split
        · exact hs.down _
        · exact ⟨(fun x hx => by cases hx), all_length n _ _ hs.len hs.fits, hs.hn, Nat.zero_le _, by have h := hs.syncs; show 0 ≤ max 0 (s.syncs - 1) ∧ max 0 (s.syncs - 1) ≤ _; omega, hs.cut⟩
      · exact hs
    · unfold synced down
      split
      · split
        · first | simp | (split <;> simp)
        · simp
      · simp
  · split
    · exact ⟨hs, hi, by omega⟩
    · split
      · refine ⟨?_, (canon_arm s _ _ hi).2, ?_⟩
        · unfold armed
          split
          · have h1 := hx.1; have h2 := hx.2.1
            exact ⟨hs.fits, hs.len, hs.hn, hs.many, by show 0 ≤ max 0 x.at_ ∧ max 0 x.at_ ≤ _; omega, by show 0 ≤ max 0 x.cut ∧ max 0 x.cut ≤ _; omega⟩
          · exact hs
        · unfold armed
          split <;> simp
      · split
        · exact ⟨hs.down _, (canon_down s _ hi).2, by unfold down; split <;> simp⟩
        · split
          · refine ⟨?_, (canon_up s hi).2, ?_⟩
            · unfold upped
              split
              · exact hs
              · exact ⟨hs.fits, hs.len, hs.hn, hs.many, by simp, by simp⟩
            · unfold upped
              split <;> simp
          · exact ⟨hs.wrote _ _ hn, (canon_wrote s _ _ hi).2, by unfold wrote; split <;> simp⟩
end Go.Proofs.YtjnjcjildiadgaaDoor.Disk
/- No disk at all: the walks with nil. -/
namespace Go.Proofs.YtjnjcjildiadgaaDoor.Disk
open Go Go.RowKit Frame
theorem Blocks_nil (w : World) : Calls Tryd.prog 32 #[.pointer none] w fun e w' => e = .returned (.int .i64 0) ∧ w = w' := by
  go_enter Tryd.func32, Tryd.ntmps32
  go_wp2_with fail
  go_ret
  exact ⟨rfl, rfl⟩
theorem On_nil (w : World) : Calls Tryd.prog 31 #[.pointer none] w fun e w' => e = .returned (.bool false) ∧ w = w' := by
  go_enter Tryd.func31, Tryd.ntmps31
  go_wp2_with fail
  go_ret
  exact ⟨rfl, rfl⟩
theorem Waits_nil (w : World) : Calls Tryd.prog 30 #[.pointer none] w fun e w' => e = .returned (.int .i64 0) ∧ w = w' := by
  go_enter Tryd.func30, Tryd.ntmps30
  go_wp2_with fail
  go_ret
  exact ⟨rfl, rfl⟩
theorem Lasts_nil (w : World) : Calls Tryd.prog 13 #[.pointer none] w fun e w' => e = .returned (.string ⟨#[]⟩) ∧ w = w' := by
  go_enter Tryd.func13, Tryd.ntmps13
  go_wp2_with fail
  go_ret
  exact ⟨rfl, rfl⟩
theorem Sync_nil (w : World) : Calls Tryd.prog 9 #[.pointer none] w fun e w' => e = .returned (.int .i64 1) ∧ w = w' := by
  go_enter Tryd.func9, Tryd.ntmps9
  go_wp2_with fail
  go_ret
  exact ⟨rfl, rfl⟩
theorem Arm_nil (w : World) : Calls Tryd.prog 24 #[.pointer none, .int .i64 0, .int .i64 0] w fun e w' => e = .returned (.tuple #[]) ∧ w = w' := by
  go_enter Tryd.func24, Tryd.ntmps24
  go_wp2_with fail
  go_end0
  exact ⟨rfl, rfl⟩
theorem Down_nil (w : World) : Calls Tryd.prog 11 #[.pointer none, .int .i64 0] w fun e w' => e = .returned (.tuple #[]) ∧ w = w' := by
  go_enter Tryd.func11, Tryd.ntmps11
  go_wp2_with fail
  go_end0
  exact ⟨rfl, rfl⟩
theorem Up_nil (w : World) : Calls Tryd.prog 25 #[.pointer none] w fun e w' => e = .returned (.tuple #[]) ∧ w = w' := by
  go_enter Tryd.func25, Tryd.ntmps25
  go_wp2_with fail
  go_end0
  exact ⟨rfl, rfl⟩
theorem check_nil (w : World) : Calls Tryd.prog 28 #[.pointer none, .int .i64 0] w fun e w' => e = .returned (.int .i64 1) ∧ w = w' := by
  go_enter Tryd.func28, Tryd.ntmps28
  go_wp2_with fail
  go_ret
  exact ⟨rfl, rfl⟩
theorem Read_nil (w : World) : Calls Tryd.prog 43 #[.pointer none, .int .i64 0] w fun e w' => e = .returned (.tuple #[.string ⟨#[]⟩, .int .i64 1]) ∧ w = w' := by
  go_enter Tryd.func43, Tryd.ntmps43
  go_wp2_with fail
  refine (check_nil _).mono ?_
  rintro e w1 ⟨rfl, rfl⟩
  go_wp2_with fail
  go_ret2
  exact ⟨rfl, rfl⟩
theorem Write_nil (w : World) : Calls Tryd.prog 8 #[.pointer none, .int .i64 0, .string ⟨#[]⟩] w fun e w' => e = .returned (.int .i64 1) ∧ w = w' := by
  go_enter Tryd.func8, Tryd.ntmps8
  go_wp2_with fail
  refine (check_nil _).mono ?_
  rintro e w1 ⟨rfl, rfl⟩
  go_wp2_with fail
  go_ret
  exact ⟨rfl, rfl⟩
end Go.Proofs.YtjnjcjildiadgaaDoor.Disk
/- The walk of DiskPlays. -/
namespace Go.Proofs.YtjnjcjildiadgaaDoor.Disk
open Go Go.RowKit Frame
theorem One.set6_other {base d L : Nat} {s : DSt} {w : World} (h : One base d L s w) {m : Nat} {cs : Array Value} {t : TypeId} (hm : Has m cs t w) (h1 : t ≠ 55) (h2 : t ≠ 5) (h3 : t ≠ 58) (v0 v1 v2 v3 v4 v5 : Value) : One base d L s (set6 w m v0 v1 v2 v3 v4 v5) :=
  (((((h.set_other hm h1 h2 h3 v0).set_other (hm.set v0) h1 h2 h3 v1).set_other ((hm.set v0).set v1) h1 h2 h3 v2).set_other (((hm.set v0).set v1).set v2) h1 h2 h3 v3).set_other ((((hm.set v0).set v1).set v2).set v3) h1 h2 h3 v4).set_other (((((hm.set v0).set v1).set v2).set v3).set v4) h1 h2 h3 v5
end Go.Proofs.YtjnjcjildiadgaaDoor.Disk
