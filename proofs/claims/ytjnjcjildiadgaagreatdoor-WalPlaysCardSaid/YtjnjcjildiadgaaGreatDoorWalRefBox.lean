/- The boxes of the document's Commit and Begin. -/
import Derived.Test.YtjnjcjildiadgaaGreatDoorWalR
import Derived.RegionTactic
import Derived.Deep.RegionWith
import Derived.Deep.Cut
import Derived.BigRegion
namespace Go.Proofs.YtjnjcjildiadgaaGreatDoor.Wl
open Go Go.RowKit Frame Oct Disk
/-- What holds inside the document's Commit, and Begin: both boxes, both results' blocks. -/
structure RcI (z zd zg h : Nat) (q : DSt) (l : LSt) (w wr : World) : Prop where
  d : Has z (RCells q (.slice none 0 0)) 30 wr
  g : RB (z + 1) h l wr
  zd : Has zd zeroR 30 wr
  zg : Has zg zeroL 35 wr
  b : Below w.heap.size w wr
theorem RcI.below {z zd zg h : Nat} {q : DSt} {l : LSt} {w wr w' : World} (H : RcI z zd zg h q l w wr) (hb : Below wr.heap.size wr w') : RcI z zd zg h q l w w' :=
  ⟨H.d.below hb, Has.below H.g hb, H.zd.below hb, H.zg.below hb, bthen H.b hb⟩
theorem RcI.start (h : Nat) (q : DSt) (l : LSt) (w : World) :
    RcI w.heap.size (w.heap.size + 2) (w.heap.size + 3) h q l w ((((w.alloc (.cells (RCells q (.slice none 0 0)) 30)).alloc (.cells (RC h l) 35)).alloc (.cells zeroR 30)).alloc (.cells zeroL 35)) := by
  have hb := ((((Below.refl w.heap.size w).alloc (Nat.le_refl _) (.cells (RCells q (.slice none 0 0)) 30)).alloc (by simp) (.cells (RC h l) 35)).alloc (by simp; omega) (.cells zeroR 30)).alloc (by simp; omega) (.cells zeroL 35)
  refine ⟨(((Has.new _ _ _).alloc _).alloc _).alloc _, ?_, ?_, ?_, hb⟩
  · have := ((Has.new (w.alloc (.cells (RCells q (.slice none 0 0)) 30)) (RC h l) 35).alloc (.cells zeroR 30)).alloc (.cells zeroL 35)
    rw [World.size_alloc] at this
    exact this
  · have := (Has.new ((w.alloc (.cells (RCells q (.slice none 0 0)) 30)).alloc (.cells (RC h l) 35)) zeroR 30).alloc (.cells zeroL 35)
    rw [World.size_alloc, World.size_alloc] at this
    exact this
  · have := Has.new (((w.alloc (.cells (RCells q (.slice none 0 0)) 30)).alloc (.cells (RC h l) 35)).alloc (.cells zeroR 30)) zeroL 35
    rw [World.size_alloc, World.size_alloc, World.size_alloc] at this
    exact this
theorem set6_six {b : Nat} {cs : Array Value} {t : TypeId} {w : World} (h : Has b cs t w) (hs : cs.size = 6) (v0 v1 v2 v3 v4 v5 : Value) : Has b #[v0, v1, v2, v3, v4, v5] t (set6 w b v0 v1 v2 v3 v4 v5) := by
  obtain ⟨l⟩ := cs
  match l, hs with
  | [_, _, _, _, _, _], _ => exact (((((h.set (i := 0) v0).set (i := 1) v1).set (i := 2) v2).set (i := 3) v3).set (i := 4) v4).set (i := 5) v5
def set7 (w : World) (b : Nat) (v0 v1 v2 v3 v4 v5 v6 : Value) : World := ((((((w.setCell ⟨b, 0, none⟩ v0).setCell ⟨b, 1, none⟩ v1).setCell ⟨b, 2, none⟩ v2).setCell ⟨b, 3, none⟩ v3).setCell ⟨b, 4, none⟩ v4).setCell ⟨b, 5, none⟩ v5).setCell ⟨b, 6, none⟩ v6
theorem set6_other {b c : Nat} {cs : Array Value} {t : TypeId} {w : World} (h : Has c cs t w) (hne : b ≠ c) (v0 v1 v2 v3 v4 v5 : Value) : Has c cs t (set6 w b v0 v1 v2 v3 v4 v5) :=
  (((((h.set_other (p := ⟨b, 0, none⟩) hne v0).set_other (p := ⟨b, 1, none⟩) hne v1).set_other (p := ⟨b, 2, none⟩) hne v2).set_other (p := ⟨b, 3, none⟩) hne v3).set_other (p := ⟨b, 4, none⟩) hne v4).set_other (p := ⟨b, 5, none⟩) hne v5
theorem six_facts {z zd zg h : Nat} {q : DSt} {l : LSt} {w wr : World} (H : RcI z zd zg h q l w wr) :
    (wr.cell? ⟨z, 0, none⟩ = some (.string (bs q.last)) ∧ wr.cell? ⟨z, 1, none⟩ = some (.slice none 0 0) ∧ wr.cell? ⟨z, 2, none⟩ = some (.bool q.on) ∧ wr.cell? ⟨z, 3, none⟩ = some (.bool q.armed) ∧ wr.cell? ⟨z, 4, none⟩ = some (.int .i64 q.syncs) ∧ wr.cell? ⟨z, 5, none⟩ = some (.int .i64 q.cut)) ∧
    (wr.cell? ⟨z + 1, 0, none⟩ = some (.int .i64 (h : Int)) ∧ wr.cell? ⟨z + 1, 1, none⟩ = some (.int .i64 l.area) ∧ wr.cell? ⟨z + 1, 2, none⟩ = some (.int .u64 (l.gen : Int)) ∧ wr.cell? ⟨z + 1, 3, none⟩ = some (.bool l.ready) ∧ wr.cell? ⟨z + 1, 4, none⟩ = some (.bool l.broken) ∧ wr.cell? ⟨z + 1, 5, none⟩ = some (.string (bs l.done)) ∧ wr.cell? ⟨z + 1, 6, none⟩ = some (.string (bs l.wait))) ∧
    (wr.cell? ⟨zd, 0, none⟩ = some (.string ⟨#[]⟩) ∧ wr.cell? ⟨zd, 1, none⟩ = some (.slice none 0 0) ∧ wr.cell? ⟨zd, 2, none⟩ = some (.bool false) ∧ wr.cell? ⟨zd, 3, none⟩ = some (.bool false) ∧ wr.cell? ⟨zd, 4, none⟩ = some (.int .i64 0) ∧ wr.cell? ⟨zd, 5, none⟩ = some (.int .i64 0)) ∧
    (wr.cell? ⟨zg, 0, none⟩ = some (.int .i64 0) ∧ wr.cell? ⟨zg, 1, none⟩ = some (.int .i64 0) ∧ wr.cell? ⟨zg, 2, none⟩ = some (.int .u64 0) ∧ wr.cell? ⟨zg, 3, none⟩ = some (.bool false) ∧ wr.cell? ⟨zg, 4, none⟩ = some (.bool false) ∧ wr.cell? ⟨zg, 5, none⟩ = some (.string ⟨#[]⟩) ∧ wr.cell? ⟨zg, 6, none⟩ = some (.string ⟨#[]⟩)) ∧
    (∀ i, wr.frozen? ⟨z, i, none⟩ = false) ∧ (∀ i, wr.frozen? ⟨z + 1, i, none⟩ = false) ∧ (∀ i, wr.frozen? ⟨zd, i, none⟩ = false) ∧ (∀ i, wr.frozen? ⟨zg, i, none⟩ = false) :=
  ⟨six H.d, seven H.g, six H.zd, seven H.zg, H.d.frozen, Has.frozen H.g, H.zd.frozen, H.zg.frozen⟩
theorem below13 {B b c : Nat} {a w : World} (h : Below B a w) (hb : B ≤ b) (hc : B ≤ c) (v0 v1 v2 v3 v4 v5 x0 x1 x2 x3 x4 x5 x6 : Value) :
    Below B a (set7 (set6 w b v0 v1 v2 v3 v4 v5) c x0 x1 x2 x3 x4 x5 x6) ∧ Below B a (set6 (set7 w c x0 x1 x2 x3 x4 x5 x6) b v0 v1 v2 v3 v4 v5) :=
  ⟨below7 (below6 h hb v0 v1 v2 v3 v4 v5) hc x0 x1 x2 x3 x4 x5 x6, below6 (below7 h hc x0 x1 x2 x3 x4 x5 x6) hb v0 v1 v2 v3 v4 v5⟩
theorem RcI.drew {z zd zg h : Nat} {q : DSt} {l : LSt} {w wr : World} (H : RcI z zd zg h q l w wr) : RcI z zd zg h q l w wr.drew := H.below (Below.refl _ _).drew
/-- The box has another disk. -/
theorem RcI.next {z zd zg h : Nat} {q q' : DSt} {l : LSt} {w wr : World} (H : RcI z zd zg h q l w wr) (hz : w.heap.size ≤ z) (h1 : z ≠ zd) (h2 : z ≠ zg) :
    RcI z zd zg h q' l w (set6 wr z (.string (bs q'.last)) (.slice none 0 0) (.bool q'.on) (.bool q'.armed) (.int .i64 q'.syncs) (.int .i64 q'.cut)) :=
  ⟨set6_six H.d rfl _ _ _ _ _ _, set6_other H.g (by omega) _ _ _ _ _ _, set6_other H.zd h1 _ _ _ _ _ _, set6_other H.zg h2 _ _ _ _ _ _, below6 H.b hz _ _ _ _ _ _⟩
/-- The box of the log: two cells of it. -/
theorem RcI.done {z zd zg h : Nat} {q : DSt} {l : LSt} {w wr : World} (H : RcI z zd zg h q l w wr) (hz : w.heap.size ≤ z) (h1 : z + 1 ≠ zd) (h2 : z + 1 ≠ zg) (al : List UInt8) :
    RcI z zd zg h q { l with done := al, wait := [] } w ((wr.setCell ⟨z + 1, 5, none⟩ (.string (bs al))).setCell ⟨z + 1, 6, none⟩ (.string ⟨#[]⟩)) :=
  ⟨(H.d.set_other (p := ⟨z + 1, 5, none⟩) (by show z + 1 ≠ z; omega) _).set_other (p := ⟨z + 1, 6, none⟩) (by show z + 1 ≠ z; omega) _, (Has.set H.g (i := 5) (.string (bs al))).set (i := 6) (.string ⟨#[]⟩),
    (H.zd.set_other (p := ⟨z + 1, 5, none⟩) h1 _).set_other (p := ⟨z + 1, 6, none⟩) h1 _, (H.zg.set_other (p := ⟨z + 1, 5, none⟩) h2 _).set_other (p := ⟨z + 1, 6, none⟩) h2 _,
    (H.b.setCell (p := ⟨z + 1, 5, none⟩) (by show _ ≤ z + 1; omega) _).setCell (p := ⟨z + 1, 6, none⟩) (by show _ ≤ z + 1; omega) _⟩
def RCom (n : Nat) (s : DSt) (l : LSt) (w : World) (e : Ending) (w' : World) : Prop :=
  e = .returned (.tuple #[RD0 (canon (commitS s l (n / 2)).1), RL (n / 2) (commitS s l (n / 2)).2.1, .int .i64 (commitS s l (n / 2)).2.2]) ∧ Below w.heap.size w w'
theorem RCom.mk {n : Nat} {s s' : DSt} {l l' : LSt} {x : Int} {q' : DSt} {w w' : World} (hb : commitS s l (n / 2) = (s', l', x)) (hq : canon s' = q') (h : Below w.heap.size w w') : RCom n s l w (.returned (.tuple #[RD0 q', RL (n / 2) l', .int .i64 x])) w' := by
  unfold RCom; rw [hb, ← hq]; exact ⟨rfl, h⟩
end Go.Proofs.YtjnjcjildiadgaaGreatDoor.Wl
