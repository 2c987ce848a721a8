/- Worlds: of the old blocks only those of a set have turned. No program in sight. -/
import Derived.Test.YtopacbmdoognjaaFrame
namespace Go.Proofs.Ytopacbmdoognjaa.Frame
open Go Go.RowKit
/-- Of the old blocks only those of F may have turned. -/
structure Turn (F : Nat → Prop) (w w' : World) : Prop where
  os : w'.os = w.os
  tape : w'.tape = w.tape
  output : w'.output = w.output
  size : w.heap.size ≤ w'.heap.size
  block : ∀ k, k < w.heap.size → ¬ F k → w'.heap[k]? = w.heap[k]?
theorem Turn.refl (F : Nat → Prop) (w : World) : Turn F w w := ⟨rfl, rfl, rfl, Nat.le_refl _, fun _ _ _ => rfl⟩
/-- What the second may turn besides is new. -/
theorem Turn.trans {F G : Nat → Prop} {x y z : World} (h : Turn F x y) (k : Turn G y z) (hg : ∀ i, i < x.heap.size → G i → F i) : Turn F x z :=
  ⟨k.os.trans h.os, k.tape.trans h.tape, k.output.trans h.output, Nat.le_trans h.size k.size, fun i hi hne => (k.block i (Nat.lt_of_lt_of_le hi h.size) (fun e => hne (hg i hi e))).trans (h.block i hi hne)⟩
theorem Turn.below {F : Nat → Prop} {x y z : World} (h : Turn F x y) (k : Below y.heap.size y z) : Turn F x z :=
  ⟨k.os.trans h.os, k.tape.trans h.tape, k.output.trans h.output, Nat.le_trans h.size k.size, fun i hi hne => (k.block i (Nat.lt_of_lt_of_le hi h.size)).trans (h.block i hi hne)⟩
theorem Turn.of_below {F : Nat → Prop} {x y : World} (k : Below x.heap.size x y) : Turn F x y := (Turn.refl F x).below k
theorem Turn.drew {F : Nat → Prop} {x y : World} (h : Turn F x y) : Turn F x y.drew := ⟨h.os, h.tape, h.output, h.size, h.block⟩
theorem Turn.setCell {F : Nat → Prop} {x y : World} (h : Turn F x y) {p : Addr} (hp : F p.block ∨ x.heap.size ≤ p.block) (v : Value) : Turn F x (y.setCell p v) :=
  ⟨h.os, h.tape, h.output, by simpa [World.setCell] using h.size, fun i hi hne => (Below.heap_setCell y p v i (by
    rintro rfl
    rcases hp with e | e
    · exact hne e
    · omega)).trans (h.block i hi hne)⟩
theorem Turn.alloc {F : Nat → Prop} {x y : World} (h : Turn F x y) (o : Obj) : Turn F x (y.alloc o) := h.below ((Below.refl _ _).alloc (Nat.le_refl _) _)
theorem Turn.grown {F : Nat → Prop} {x y z : World} {row : Option Nat} (h : Turn F x y) (hg : y.grownBy z row) (hr : ∀ k, row = some k → F k ∨ x.heap.size ≤ k) : Turn F x z :=
  ⟨hg.os.trans h.os, hg.tape.trans h.tape, hg.output.trans h.output, Nat.le_trans h.size hg.size, fun i hi hne => (hg.block i (Nat.lt_of_lt_of_le hi h.size) (fun e => by
    rcases hr i e.symm with h1 | h1
    · exact hne h1
    · omega)).trans (h.block i hi hne)⟩
theorem Turn.to_below {F : Nat → Prop} {B : Nat} {a x y : World} (h : Below B a x) (k : Turn F x y) (hb : ∀ i, F i → B ≤ i) (hB : B ≤ x.heap.size) : Below B a y :=
  ⟨k.os.trans h.os, k.tape.trans h.tape, k.output.trans h.output, Nat.le_trans h.size k.size, fun i hi => (k.block i (by omega) (fun e => by have := hb i e; omega)).trans (h.block i hi)⟩
theorem Turn.cell {F : Nat → Prop} {x y : World} (h : Turn F x y) {p : Addr} (hp : p.block < x.heap.size) (hne : ¬ F p.block) : y.cell? p = x.cell? p := World.cell?_of_block (h.block _ hp hne)
theorem Turn.frozen {F : Nat → Prop} {x y : World} (h : Turn F x y) {p : Addr} (hp : p.block < x.heap.size) (hne : ¬ F p.block) : y.frozen? p = x.frozen? p := World.frozen?_of_block (h.block _ hp hne)
theorem Has.turn {F : Nat → Prop} {b : Nat} {cs : Array Value} {t : TypeId} {w w' : World} (h : Has b cs t w) (hb : Turn F w w') (hne : ¬ F b) : Has b cs t w' := (hb.block b h.lt hne).trans h
end Go.Proofs.Ytopacbmdoognjaa.Frame
