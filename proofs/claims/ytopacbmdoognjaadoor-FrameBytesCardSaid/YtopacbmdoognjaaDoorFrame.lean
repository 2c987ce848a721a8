/- Worlds: only one block of the old ones has turned; a struct in a block of its own. No program in sight. -/
import Derived.Below
namespace Go.Proofs.YtopacbmdoognjaaDoor.Frame
open Go Go.RowKit
/-- Of the old blocks only b may have turned. -/
structure Only (b : Nat) (w w' : World) : Prop where
  os : w'.os = w.os
  tape : w'.tape = w.tape
  output : w'.output = w.output
  size : w.heap.size ≤ w'.heap.size
  block : ∀ k, k < w.heap.size → k ≠ b → w'.heap[k]? = w.heap[k]?
theorem Only.refl (b : Nat) (w : World) : Only b w w := ⟨rfl, rfl, rfl, Nat.le_refl _, fun _ _ _ => rfl⟩
theorem Only.trans {b : Nat} {x y z : World} (h : Only b x y) (k : Only b y z) : Only b x z :=
  ⟨k.os.trans h.os, k.tape.trans h.tape, k.output.trans h.output, Nat.le_trans h.size k.size, fun i hi hne => (k.block i (Nat.lt_of_lt_of_le hi h.size) hne).trans (h.block i hi hne)⟩
theorem Only.below {b : Nat} {x y z : World} (h : Only b x y) (k : Below y.heap.size y z) : Only b x z :=
  ⟨k.os.trans h.os, k.tape.trans h.tape, k.output.trans h.output, Nat.le_trans h.size k.size, fun i hi hne => (k.block i (Nat.lt_of_lt_of_le hi h.size)).trans (h.block i hi hne)⟩
theorem Only.of_below {b : Nat} {x y : World} (k : Below x.heap.size x y) : Only b x y := (Only.refl b x).below k
theorem Only.drew {b : Nat} {x y : World} (h : Only b x y) : Only b x y.drew := ⟨h.os, h.tape, h.output, h.size, h.block⟩
theorem Only.setCell {b : Nat} {x y : World} (h : Only b x y) {p : Addr} (hp : p.block = b ∨ x.heap.size ≤ p.block) (v : Value) : Only b x (y.setCell p v) :=
  ⟨h.os, h.tape, h.output, by simpa [World.setCell] using h.size, fun i hi hne => (Below.heap_setCell y p v i (by
    rintro rfl
    rcases hp with e | e
    · exact hne e
    · omega)).trans (h.block i hi hne)⟩
theorem Only.set {b i : Nat} {x y : World} (h : Only b x y) (v : Value) : Only b x (y.setCell ⟨b, i, none⟩ v) := h.setCell (.inl rfl) v
theorem Only.alloc {b : Nat} {x y : World} (h : Only b x y) (o : Obj) : Only b x (y.alloc o) := h.below ((Below.refl _ _).alloc (Nat.le_refl _) _)
/-- Below a number that is at most b nothing has turned. -/
theorem Only.to_below {b B : Nat} {a x y : World} (h : Below B a x) (k : Only b x y) (hb : B ≤ b) (hB : B ≤ x.heap.size) : Below B a y :=
  ⟨k.os.trans h.os, k.tape.trans h.tape, k.output.trans h.output, Nat.le_trans h.size k.size, fun i hi => (k.block i (by omega) (by omega)).trans (h.block i hi)⟩
theorem Only.cell {b : Nat} {x y : World} (h : Only b x y) {p : Addr} (hp : p.block < x.heap.size) (hne : p.block ≠ b) : y.cell? p = x.cell? p := World.cell?_of_block (h.block _ hp hne)
theorem Only.frozen {b : Nat} {x y : World} (h : Only b x y) {p : Addr} (hp : p.block < x.heap.size) (hne : p.block ≠ b) : y.frozen? p = x.frozen? p := World.frozen?_of_block (h.block _ hp hne)
/-- A block holds just these cells, none frozen. -/
def Has (b : Nat) (cs : Array Value) (t : TypeId) (w : World) : Prop := w.heap[b]? = some (.cells cs t (0, 0))
theorem Has.lt {b : Nat} {cs : Array Value} {t : TypeId} {w : World} (h : Has b cs t w) : b < w.heap.size := by
  rcases Nat.lt_or_ge b w.heap.size with h1 | h1
  · exact h1
  · rw [Has, Array.getElem?_eq_none h1] at h; cases h
theorem Has.cell {b : Nat} {cs : Array Value} {t : TypeId} {w : World} (h : Has b cs t w) (i : Nat) : w.cell? ⟨b, i, none⟩ = cs[i]? := by
  rw [Has] at h; simp [World.cell?, h]
theorem Has.frozen {b : Nat} {cs : Array Value} {t : TypeId} {w : World} (h : Has b cs t w) (i : Nat) : w.frozen? ⟨b, i, none⟩ = false := by
  rw [Has] at h; simp [World.frozen?, h]
theorem Has.below {b : Nat} {cs : Array Value} {t : TypeId} {w w' : World} (h : Has b cs t w) (hb : Below w.heap.size w w') : Has b cs t w' := (hb.block b h.lt).trans h
theorem Has.only {b c : Nat} {cs : Array Value} {t : TypeId} {w w' : World} (h : Has b cs t w) (hb : Only c w w') (hne : b ≠ c) : Has b cs t w' := (hb.block b h.lt hne).trans h
theorem Has.drew {b : Nat} {cs : Array Value} {t : TypeId} {w : World} (h : Has b cs t w) : Has b cs t w.drew := h
theorem Has.alloc {b : Nat} {cs : Array Value} {t : TypeId} {w : World} (h : Has b cs t w) (o : Obj) : Has b cs t (w.alloc o) := h.below ((Below.refl _ _).alloc (Nat.le_refl _) _)
theorem Has.set {b i : Nat} {cs : Array Value} {t : TypeId} {w : World} (h : Has b cs t w) (v : Value) : Has b (cs.setIfInBounds i v) t (w.setCell ⟨b, i, none⟩ v) := by
  rw [Has] at h ⊢
  simp [World.setCell, Array.getElem?_modify, h]
theorem Has.set_other {b : Nat} {cs : Array Value} {t : TypeId} {w : World} (h : Has b cs t w) {p : Addr} (hp : p.block ≠ b) (v : Value) : Has b cs t (w.setCell p v) :=
  (Below.heap_setCell w p v b (fun e => hp e.symm)).trans h
theorem Has.new (w : World) (cs : Array Value) (t : TypeId) : Has w.heap.size cs t (w.alloc (.cells cs t)) := by
  rw [Has]
  show (w.heap.push _)[w.heap.size]? = _
  simp
theorem after_alloc {w w1 : World} {o : Obj} (hb : Below (w.alloc o).heap.size (w.alloc o) w1) : Below w.heap.size w w1 :=
  ((Below.refl _ _).alloc (Nat.le_refl _) o).trans (hb.mono (by simp))
/-- One call behind another: of the old blocks nothing has turned. -/
theorem bthen {W x y : World} (h : Below W.heap.size W x) (k : Below x.heap.size x y) : Below W.heap.size W y := h.trans (k.mono h.size)
theorem bcell {W w1 : World} (hb : Below W.heap.size W w1) : (∀ b o, b < W.heap.size → w1.cell? ⟨b, o, none⟩ = W.cell? ⟨b, o, none⟩) ∧ (∀ b o, b < W.heap.size → w1.frozen? ⟨b, o, none⟩ = W.frozen? ⟨b, o, none⟩) :=
  ⟨fun b o h => hb.cell (p := ⟨b, o, none⟩) h, fun b o h => hb.frozen (p := ⟨b, o, none⟩) h⟩
end Go.Proofs.YtopacbmdoognjaaDoor.Frame
