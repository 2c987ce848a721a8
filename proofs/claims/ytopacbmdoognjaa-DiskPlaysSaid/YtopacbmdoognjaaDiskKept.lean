/- What stays as it was while a disk turns: more of it. -/
import Derived.Test.YtopacbmdoognjaaDiskTwo
namespace Go.Proofs.Ytopacbmdoognjaa.Disk
open Go Go.RowKit Frame
theorem Kept.refl (w : World) : Kept w w := fun _ _ _ _ _ _ h => h
theorem Kept.trans {x y z : World} (h : Kept x y) (k : Kept y z) : Kept x z := fun m cs t h1 h2 h3 hm => k m cs t h1 h2 h3 (h m cs t h1 h2 h3 hm)
theorem Kept.of_below {x y : World} (h : Below x.heap.size x y) : Kept x y := fun _ _ _ _ _ _ hm => Has.below hm h
theorem Kept.set {x y : World} (h : Kept x y) {b i : Nat} (hb : x.heap.size ≤ b) (v : Value) : Kept x (y.setCell ⟨b, i, none⟩ v) := fun m cs t h1 h2 h3 hm => (h m cs t h1 h2 h3 hm).set_other (p := ⟨b, i, none⟩) (by have := hm.lt; show b ≠ m; omega) v
def set6 (w : World) (b : Nat) (v0 v1 v2 v3 v4 v5 : Value) : World := (((((w.setCell ⟨b, 0, none⟩ v0).setCell ⟨b, 1, none⟩ v1).setCell ⟨b, 2, none⟩ v2).setCell ⟨b, 3, none⟩ v3).setCell ⟨b, 4, none⟩ v4).setCell ⟨b, 5, none⟩ v5
theorem Kept.set6 {x y : World} (h : Kept x y) {b : Nat} (hb : x.heap.size ≤ b) (v0 v1 v2 v3 v4 v5 : Value) : Kept x (set6 y b v0 v1 v2 v3 v4 v5) := (((((h.set hb v0).set hb v1).set hb v2).set hb v3).set hb v4).set hb v5
theorem One.set_other {base d L : Nat} {s : DSt} {w : World} (h : One base d L s w) {m i : Nat} {cs : Array Value} {t : TypeId} (hm : Has m cs t w) (h1 : t ≠ 112) (h2 : t ≠ 5) (h3 : t ≠ 115) (v : Value) :
    One base d L s (w.setCell ⟨m, i, none⟩ v) := by
  obtain ⟨v1, k1⟩ := h
  have ht : Turn (fun k => k = m) w (w.setCell ⟨m, i, none⟩ v) := Turn.setCell (F := fun k => k = m) (p := ⟨m, i, none⟩) (Turn.refl _ _) (.inl rfl) v
  exact ⟨v1, k1.turn ht (fun k e => by rw [e]; exact k1.apart hm h1 h2 h3)⟩
end Go.Proofs.Ytopacbmdoognjaa.Disk
