/- Cells in a row that are stored into a block known whole. No program in sight. -/
import Derived.Test.YtopacbmdoognjaaDoorTurn
import Derived.Laws.IdiomCopy
namespace Go.Proofs.YtopacbmdoognjaaDoor.Frame
open Go Go.RowKit
theorem Has.setCells {b : Nat} {t : TypeId} : ∀ (vs : List Value) (o : Nat) (l : List Value) (w : World), Has b l.toArray t w → o + vs.length ≤ l.length →
    Has b (l.take o ++ (vs ++ l.drop (o + vs.length))).toArray t (w.setCells b o vs)
  | [], o, l, w, h, _ => by simpa [World.setCells] using h
  | v :: vs, o, l, w, h, hl => by
    rw [List.length_cons] at hl
    have h1 := h.set (i := o) v
    rw [List.setIfInBounds_toArray] at h1
    have h2 := Has.setCells vs (o + 1) (l.set o v) _ h1 (by rw [List.length_set]; omega)
    rw [World.setCells]
    have e : (l.set o v).take (o + 1) ++ (vs ++ (l.set o v).drop (o + 1 + vs.length)) = l.take o ++ (v :: vs ++ l.drop (o + (v :: vs).length)) := by
      rw [List.take_succ_eq_append_getElem (by rw [List.length_set]; omega), List.take_set_of_le (Nat.le_refl _), List.getElem_set_self, List.drop_set_of_lt (by omega), List.length_cons]
      simp [Nat.add_assoc, Nat.add_comm 1]
    rw [← e]
    exact h2
theorem Only.setCells {b : Nat} {x : World} : ∀ (vs : List Value) (o : Nat) (y : World), Only b x y → Only b x (y.setCells b o vs)
  | [], _, _, h => h
  | v :: vs, o, _, h => Only.setCells vs (o + 1) _ (h.set v)
end Go.Proofs.YtopacbmdoognjaaDoor.Frame
