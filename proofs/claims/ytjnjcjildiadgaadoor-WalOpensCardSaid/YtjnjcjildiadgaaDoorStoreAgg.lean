/- A struct stored whole, at a step of a region that draws its order; what stays. No program in sight. -/
import Derived.Test.YtjnjcjildiadgaaDoorDiskA
import Derived.Deep.MidRow
namespace Go.Proofs.YtjnjcjildiadgaaDoor.Frame
open Go Go.RowKit
theorem step_store_agg {P : Program} {ops : Array Oper} {o : Oper} {a : Act} {w : World} {K : Act → World → Prop} {Q : Exit → Act → World → Prop} {E : Prop} (hgd : o.guard = none) (ty : TypeId) (x y : Operand) (ho : o.op = .store ty x y)
    (b : Nat) (cells : Array Value) (hx : a.eval x = .pointer (some ⟨b, 0, none⟩)) (hy : a.eval y = .agg cells) (ht : w.there b 0 cells.size) (hi : (P.info? ty).map (·.size) = some cells.size) (h1 : cells.all (·.oneCell') = true)
    (h : K (a.put o.dst undef) (w.setCells b 0 cells.toList)) : if Region.wanted o (yielded ops a.tmps) = true then Oper.wp P o a w K Q else E := by
  have hw : Region.wanted o (yielded ops a.tmps) = true := by simp [Region.wanted, hgd]
  rw [if_pos hw]
  exact wp_store_mid ty x y ho b 0 cells hx hy ht hi h1 h
theorem Has.there {b : Nat} {cs : Array Value} {t : TypeId} {w : World} (h : Has b cs t w) (n : Nat) (hn : n = cs.size) : w.there b 0 n := fun j hj => by
  subst hn
  rw [Nat.zero_add]
  exact ⟨by rw [h.cell, Array.getElem?_eq_getElem hj]; rfl, h.frozen j⟩
theorem Has.put {b : Nat} {cs : Array Value} {t : TypeId} {w : World} (h : Has b cs t w) (vs : List Value) (hl : vs.length = cs.size) : Has b vs.toArray t (w.setCells b 0 vs) := by
  obtain ⟨l⟩ := cs
  have := Has.setCells vs 0 l w h (by simpa using Nat.le_of_eq hl)
  have hl' : l.length ≤ vs.length := by simpa using Nat.le_of_eq hl.symm
  rw [List.take_zero, List.nil_append, Nat.zero_add, List.drop_of_length_le hl', List.append_nil] at this
  exact this
theorem Has.put_other {c b : Nat} {cs : Array Value} {t : TypeId} {w : World} (h : Has c cs t w) (hne : c ≠ b) (o : Nat) (vs : List Value) : Has c cs t (w.setCells b o vs) :=
  Has.only h (Only.setCells vs o w (Only.refl b w)) hne
theorem below_put {B b : Nat} {a w : World} (h : Below B a w) (hb : B ≤ b) (hB : B ≤ w.heap.size) (o : Nat) (vs : List Value) : Below B a (w.setCells b o vs) :=
  Only.to_below h (Only.setCells vs o w (Only.refl b w)) hb hB
end Go.Proofs.YtjnjcjildiadgaaDoor.Frame
