/- What an act of WalPlays turns: the world's block; the document's disk on which nothing waits. -/
import Derived.Test.YtjnjcjildiadgaaGreatDoorWalPlayOpen
import Derived.Test.YtjnjcjildiadgaaGreatDoorWalRefCommitB
import Derived.Test.YtjnjcjildiadgaaGreatDoorWalRefBeginB
import Derived.Test.YtjnjcjildiadgaaGreatDoorWalFalls
namespace Go.Proofs.YtjnjcjildiadgaaGreatDoor.Wl
open Go Go.RowKit Frame Oct Disk
theorem rpost_flat {q : DSt} {w w' : World} {e : Ending} (h : RPost q w e w') (hw : q.wait = []) : e = .returned (RD0 q) ∧ Below w.heap.size w w' := by
  obtain ⟨v, rfl, r, b⟩ := h
  rw [hw] at r
  have hv : v = .slice none 0 0 := r.2 rfl
  subst hv
  exact ⟨rfl, b⟩
theorem rArm0_calls (q : DSt) (hw : q.wait = []) (n c : Int) (w : World) :
    Calls Tryz.prog 31 #[RD0 q, .int .i64 n, .int .i64 c] w (fun e w' => e = .returned (RD0 (armed q n c)) ∧ Below w.heap.size w w') :=
  (rArm_calls q (.slice none 0 0) n c w (by rw [hw]; exact RW.nil w)).mono fun e w' h => rpost_flat h (by rw [(armed_same q n c).2.1]; exact hw)
theorem rDown0_calls (n : Nat) (q : DSt) (hw : q.wait = []) (c : Int) (hc : -9223372036854775808 ≤ c ∧ c ≤ 9223372036854775807) (hs : Disk.Good n q) (w : World) :
    Calls Tryz.prog 35 #[RD0 q, .int .i64 c] w (fun e w' => e = .returned (RD0 (rdown q c)) ∧ Below w.heap.size w w') :=
  (rDown_calls n q (.slice none 0 0) c hc hs w (by rw [hw]; exact RW.nil w)).mono fun e w' h => rpost_flat h (by unfold rdown; split; rfl; exact hw)
theorem rUp0_calls (q : DSt) (hw : q.wait = []) (w : World) :
    Calls Tryz.prog 34 #[RD0 q] w (fun e w' => e = .returned (RD0 (rup q)) ∧ Below w.heap.size w w') :=
  (rUp_calls q (.slice none 0 0) w (by rw [hw]; exact RW.nil w)).mono fun e w' h => rpost_flat h (by unfold rup; split; exact hw; rfl)
section
variable {B p d L b n : Nat} {s s' : DSt} {l l' : LSt} {cs : Array Value} {W w w' : World}
theorem PC.next (h : PC B p d L b s l cs W w) (hl : Lw B p d L s' l' W w') (k : Kept2 w w') : PC B p d L b s' l' cs W w' := ⟨hl, k _ _ _ (by decide) (by decide) (by decide) (by decide) h.wb, h.hb⟩
set_option maxHeartbeats 2000000 in
theorem PC.disk6 {q0 q : DSt} {l0 : LSt} (h : PC B p d L b s l (WCells d p n q0 l0) W w) :
    PC B p d L b s l (WCells d p n q l0) W ((((((w.setCell ⟨b, 2, none⟩ (.string (bs q.last))).setCell ⟨b, 3, none⟩ (.slice none 0 0)).setCell ⟨b, 4, none⟩ (.bool q.on)).setCell ⟨b, 5, none⟩ (.bool q.armed)).setCell ⟨b, 6, none⟩ (.int .i64 q.syncs)).setCell ⟨b, 7, none⟩ (.int .i64 q.cut)) :=
  ((((((h.set 2 (.string (bs q.last))).set 3 (.slice none 0 0)).set 4 (.bool q.on)).set 5 (.bool q.armed)).set 6 (.int .i64 q.syncs)).set 7 (.int .i64 q.cut)).to rfl
set_option maxHeartbeats 2000000 in
theorem PC.log7 {q : DSt} {l0 l1 : LSt} (h : PC B p d L b s l (WCells d p n q l0) W w) :
    PC B p d L b s l (WCells d p n q l1) W (((((((w.setCell ⟨b, 8, none⟩ (.int .i64 ((n / 2 : Nat) : Int))).setCell ⟨b, 9, none⟩ (.int .i64 l1.area)).setCell ⟨b, 10, none⟩ (.int .u64 (l1.gen : Int))).setCell ⟨b, 11, none⟩ (.bool l1.ready)).setCell ⟨b, 12, none⟩ (.bool l1.broken)).setCell ⟨b, 13, none⟩ (.string (bs l1.done))).setCell ⟨b, 14, none⟩ (.string (bs l1.wait))) :=
  (((((((h.set 8 (.int .i64 ((n / 2 : Nat) : Int))).set 9 (.int .i64 l1.area)).set 10 (.int .u64 (l1.gen : Int))).set 11 (.bool l1.ready)).set 12 (.bool l1.broken)).set 13 (.string (bs l1.done))).set 14 (.string (bs l1.wait))).to rfl
end
def WDo (B d L b n : Nat) (s : DSt) (l : LSt) (x : WAct) (W : World) (e : Ending) (w' : World) : Prop :=
  e = .returned (.bool true) ∧ ∃ p, LInv n (play s l (n / 2) x).1 (play s l (n / 2) x).2 ∧ Inv (play s l (n / 2) x).1 ∧ PC B p d L b (play s l (n / 2) x).1 (play s l (n / 2) x).2 (WCells d p n (canon (play s l (n / 2) x).1) (play s l (n / 2) x).2) W w'
theorem WDo.mk {B p d L b n : Nat} {s s' : DSt} {l l' : LSt} {x : WAct} {W w' : World} {q : DSt} (hp : play s l (n / 2) x = (s', l')) (hi : LInv n s' l') (hv : Inv s') (hq : canon s' = q) (h : PC B p d L b s' l' (WCells d p n q l') W w') :
    WDo B d L b n s l x W (.returned (.bool true)) w' := by
  unfold WDo; rw [hp]; exact ⟨rfl, p, hi, hv, by subst hq; exact h⟩
theorem play_2 {s : DSt} {l : LSt} {h : Nat} {x : WAct} (hc : x.kind.toNat % 6 = 2) : play s l h x = ((commitS s l h).1, (commitS s l h).2.1) := by unfold play; rw [if_pos hc]
theorem play_3 {s : DSt} {l : LSt} {h : Nat} {x : WAct} (hc : x.kind.toNat % 6 = 3) : play s l h x = ((beginS s l h (x.recs.getD 0 [])).1, (beginS s l h (x.recs.getD 0 [])).2.1) := by unfold play; rw [if_neg (by omega), if_pos hc]
theorem play_4 {s : DSt} {l : LSt} {h : Nat} {x : WAct} (hc : x.kind.toNat % 6 = 4) : play s l h x = (armed s x.at_ x.cut, l) := by unfold play; rw [if_neg (by omega), if_neg (by omega), if_pos hc]
theorem play_5 {s : DSt} {l : LSt} {h : Nat} {x : WAct} (hc : x.kind.toNat % 6 = 5) : play s l h x = (anew s x.cut, openL h (anew s x.cut).last) := by unfold play; rw [if_neg (by omega), if_neg (by omega), if_neg (by omega), if_pos hc]
theorem play_0 {s : DSt} {l : LSt} {h : Nat} {x : WAct} (hc : x.kind.toNat % 6 < 2) : play s l h x = (s, (appendS l h x.recs).1) := by unfold play; rw [if_neg (by omega), if_neg (by omega), if_neg (by omega), if_neg (by omega)]
end Go.Proofs.YtjnjcjildiadgaaGreatDoor.Wl
