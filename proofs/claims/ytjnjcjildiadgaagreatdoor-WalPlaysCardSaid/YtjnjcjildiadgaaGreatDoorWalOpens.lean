/- The walk of WalOpens. -/
import Derived.Test.YtjnjcjildiadgaaGreatDoorWalR
import Derived.Test.YtjnjcjildiadgaaGreatDoorWalC
namespace Go.Proofs.YtjnjcjildiadgaaGreatDoor.Wl
open Go Go.RowKit Frame Oct Disk
theorem st_ss {A : Option Addr} {n c : Nat} {l : List (List UInt8)} {w : World} (h : ST (.slice A n c) l w) : Sg.SS A l w := by
  obtain ⟨A', c', e, -, -, -, -, hs⟩ := h.sv
  injection e with e1
  subst e1
  exact hs
/-- The disk behind the writes of k blocks. -/
structure OnI (B d L n k : Nat) (l : List (List UInt8)) (s : DSt) (W w : World) : Prop where
  one : One B d L s w
  good : Disk.Good n s
  on : s.on = true
  calm : s.armed = false
  many : s.wait.length ≤ k
  bel : Below B W w
theorem wr_ok {n k : Nat} {s : DSt} (hg : Disk.Good n s) (ho : s.on = true) (hk : k < n) (t : ByteArray) (ht : t.size ≤ 64) : ans s (k : Int) t = 0 ∧ (wrote s (k : Int) t).on = true ∧ (wrote s (k : Int) t).armed = s.armed ∧ (wrote s (k : Int) t).wait.length = s.wait.length + 1 := by
  have hc : chk s (k : Int) = 0 := by
    unfold chk
    rw [if_neg (by rw [ho]; decide), if_neg]
    have := hg.len
    omega
  have ha : ans s (k : Int) t = 0 := by
    unfold ans
    rw [if_neg (by rw [hc]; decide), if_neg (by omega)]
  refine ⟨ha, ?_⟩
  unfold wrote
  rw [if_pos ha]
  exact ⟨ho, rfl, by simp⟩
theorem sync_calm {n : Nat} {s : DSt} (hg : Disk.Good n s) (ho : s.on = true) (hc : s.armed = false) : (synced s).2 = 0 ∧ Disk.Good n (synced s).1 ∧ (synced s).1.on = true ∧ (synced s).1.wait = [] := by
  have e := synced_on s ho (.inl hc)
  rw [e]
  have hsy := hg.syncs
  refine ⟨rfl, ⟨(fun y hy => by cases hy), ?_, hg.hn, Nat.zero_le _, by show 0 ≤ max 0 (s.syncs - 1) ∧ max 0 (s.syncs - 1) ≤ _; omega, hg.cut⟩, ho, rfl⟩
  show (all s.last s.wait).length = _
  rw [← done_all s.wait s.last (total s.wait : Nat) (by omega)]
  exact done_length n s.wait s.last _ hg.len hg.fits
end Go.Proofs.YtjnjcjildiadgaaGreatDoor.Wl
