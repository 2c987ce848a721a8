/- Acts of WalPlays, plainly; the world of WalPlays in its block. -/
import Derived.Test.YtjnjcjildiadgaaGreatDoorWalR
import Derived.Test.YtjnjcjildiadgaaGreatDoorWalC
namespace Go.Proofs.YtjnjcjildiadgaaGreatDoor.Wl
open Go Go.RowKit Frame Oct Disk
/-- What an act does to the disk and the log. -/
def play (s : DSt) (l : LSt) (h : Nat) (x : WAct) : DSt × LSt :=
  if x.kind.toNat % 6 = 2 then ((commitS s l h).1, (commitS s l h).2.1)
  else if x.kind.toNat % 6 = 3 then ((beginS s l h (x.recs.getD 0 [])).1, (beginS s l h (x.recs.getD 0 [])).2.1)
  else if x.kind.toNat % 6 = 4 then (armed s x.at_ x.cut, l)
  else if x.kind.toNat % 6 = 5 then (anew s x.cut, openL h (anew s x.cut).last)
  else (s, (appendS l h x.recs).1)
theorem canon_anew {s : DSt} (hi : Inv s) (c : Int) : canon (anew s c) = rup (rdown (canon s) c) ∧ Inv (anew s c) := by
  obtain ⟨e1, i1⟩ := canon_down s c hi
  obtain ⟨e2, i2⟩ := canon_up (down s c) i1
  exact ⟨by unfold anew; rw [e2, e1], i2⟩
/-- The world's cells: the disk, the log; the document's. -/
def QCells (q : DSt) : Array Value := #[.string (bs q.last), .slice none 0 0, .bool q.on, .bool q.armed, .int .i64 q.syncs, .int .i64 q.cut]
def WCells (d p n : Nat) (q : DSt) (l : LSt) : Array Value :=
  #[.pointer (some ⟨d, 0, none⟩), .pointer (some ⟨p, 0, none⟩), .string (bs q.last), .slice none 0 0, .bool q.on, .bool q.armed, .int .i64 q.syncs, .int .i64 q.cut,
    .int .i64 ((n / 2 : Nat) : Int), .int .i64 l.area, .int .u64 (l.gen : Int), .bool l.ready, .bool l.broken, .string (bs l.done), .string (bs l.wait)]
def WB (b d p n : Nat) (q : DSt) (l : LSt) (w : World) : Prop := Has b (WCells d p n q l) 37 w
section
variable {b d p n : Nat} {q : DSt} {l : LSt} {w w' : World}
theorem WB.c0 (h : WB b d p n q l w) : w.cell? ⟨b, 0, none⟩ = some (.pointer (some ⟨d, 0, none⟩)) := Has.cell h 0
theorem WB.c1 (h : WB b d p n q l w) : w.cell? ⟨b, 1, none⟩ = some (.pointer (some ⟨p, 0, none⟩)) := Has.cell h 1
theorem WB.q6 (h : WB b d p n q l w) : w.cell? ⟨b, 2, none⟩ = some (.string (bs q.last)) ∧ w.cell? ⟨b, 3, none⟩ = some (.slice none 0 0) ∧ w.cell? ⟨b, 4, none⟩ = some (.bool q.on) ∧ w.cell? ⟨b, 5, none⟩ = some (.bool q.armed) ∧ w.cell? ⟨b, 6, none⟩ = some (.int .i64 q.syncs) ∧ w.cell? ⟨b, 7, none⟩ = some (.int .i64 q.cut) :=
  ⟨Has.cell h 2, Has.cell h 3, Has.cell h 4, Has.cell h 5, Has.cell h 6, Has.cell h 7⟩
theorem WB.m7 (h : WB b d p n q l w) : w.cell? ⟨b, 8, none⟩ = some (.int .i64 ((n / 2 : Nat) : Int)) ∧ w.cell? ⟨b, 9, none⟩ = some (.int .i64 l.area) ∧ w.cell? ⟨b, 10, none⟩ = some (.int .u64 (l.gen : Int)) ∧ w.cell? ⟨b, 11, none⟩ = some (.bool l.ready) ∧ w.cell? ⟨b, 12, none⟩ = some (.bool l.broken) ∧ w.cell? ⟨b, 13, none⟩ = some (.string (bs l.done)) ∧ w.cell? ⟨b, 14, none⟩ = some (.string (bs l.wait)) :=
  ⟨Has.cell h 8, Has.cell h 9, Has.cell h 10, Has.cell h 11, Has.cell h 12, Has.cell h 13, Has.cell h 14⟩
theorem WB.kept2 (h : WB b d p n q l w) (k : Kept2 w w') : WB b d p n q l w' := k _ _ _ (by decide) (by decide) (by decide) (by decide) h
theorem WB.below (h : WB b d p n q l w) (k : Below w.heap.size w w') : WB b d p n q l w' := Has.below h k
end
/-- What holds between two acts. -/
structure PW (B p d L b n : Nat) (s : DSt) (l : LSt) (W w : World) : Prop where
  i : Lw B p d L s l W w
  inv : LInv n s l
  arm : Inv s
  wb : WB b d p n (canon s) l w
  hb : B ≤ b
theorem PW.below {B p d L b n : Nat} {s : DSt} {l : LSt} {W w w' : World} (h : PW B p d L b n s l W w) (k : Below w.heap.size w w') : PW B p d L b n s l W w' := ⟨h.i.below k, h.inv, h.arm, h.wb.below k, h.hb⟩
end Go.Proofs.YtjnjcjildiadgaaGreatDoor.Wl
