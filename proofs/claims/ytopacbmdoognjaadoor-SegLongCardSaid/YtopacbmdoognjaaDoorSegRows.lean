/- Rows of strings: slices that are read, slices that a call owns; those among the arguments, opened. -/
import Derived.Test.YtopacbmdoognjaaDoorPlain
import Derived.Test.YtopacbmdoognjaaDoorDiskA
import Derived.Test.YtopacbmdoognjaaDoorProg
import Derived.ProofKit
import Derived.OwnWalk
import Derived.SliceStrings
namespace Go.Proofs.YtopacbmdoognjaaDoor.Sg
open Go Go.RowKit Go.ChangeShapes Go.WideShapes Frame Oct
/-- A slice of these strings lies in w. -/
def SS (A : Option Addr) (l : List (List UInt8)) (w : World) : Prop :=
  0 < l.length → ∃ b off, A = some ⟨b, off, none⟩ ∧ b < w.heap.size ∧ ∀ i, i < l.length → w.cell? ⟨b, off + i, none⟩ = some (.string (bs (l.getD i [])))
theorem SS.nil (A : Option Addr) (w : World) : SS A [] w := fun h => absurd h (Nat.lt_irrefl 0)
theorem SS.below {A : Option Addr} {l : List (List UInt8)} {w w' : World} (h : SS A l w) (hb : Below w.heap.size w w') : SS A l w' := fun h0 => by
  obtain ⟨b, off, hA, hlt, hi⟩ := h h0
  exact ⟨b, off, hA, Nat.lt_of_lt_of_le hlt hb.size, fun i hil => (hb.cell (p := ⟨b, off + i, none⟩) hlt).trans (hi i hil)⟩
theorem SS.drew {A : Option Addr} {l : List (List UInt8)} {w : World} (h : SS A l w) : SS A l w.drew := h
theorem getD_take (l : List (List UInt8)) (k i : Nat) (h : i < k) : (l.take k).getD i [] = l.getD i [] := by
  simp [List.getD_eq_getElem?_getD, h]
theorem getD_drop (l : List (List UInt8)) (k i : Nat) : (l.drop k).getD i [] = l.getD (k + i) [] := by
  simp [List.getD_eq_getElem?_getD, List.getElem?_drop]
theorem SS.take {A : Option Addr} {l : List (List UInt8)} {w : World} (h : SS A l w) (k : Nat) : SS A (l.take k) w := fun h0 => by
  simp only [List.length_take] at h0
  obtain ⟨b, off, hA, hlt, hi⟩ := h (by omega)
  refine ⟨b, off, hA, hlt, fun i hil => ?_⟩
  simp only [List.length_take] at hil
  rw [getD_take l k i (by omega)]
  exact hi i (by omega)
theorem SS.drop {b off : Nat} {l : List (List UInt8)} {w : World} (h : SS (some ⟨b, off, none⟩) l w) (k : Nat) : SS (some ⟨b, off + k, none⟩) (l.drop k) w := fun h0 => by
  simp only [List.length_drop] at h0
  obtain ⟨b', off', hA, hlt, hi⟩ := h (by omega)
  simp only [Option.some.injEq, Addr.mk.injEq, and_true] at hA
  obtain ⟨rfl, rfl⟩ := hA
  refine ⟨b, off + k, rfl, hlt, fun i hil => ?_⟩
  simp only [List.length_drop] at hil
  rw [getD_drop, Nat.add_assoc]
  exact hi (k + i) (by omega)
def cells (l : List (List UInt8)) : List Value := l.map fun r => .string (bs r)
theorem cells_length (l : List (List UInt8)) : (cells l).length = l.length := by simp [cells]
theorem cells_append (a b : List (List UInt8)) : cells (a ++ b) = cells a ++ cells b := by simp [cells]
theorem cells_one (r : List UInt8) : cells [r] = [.string (bs r)] := rfl
theorem cells_oneCell (l : List (List UInt8)) : ∀ u ∈ cells l, u.oneCell' = true := by
  intro u hu
  simp only [cells, List.mem_map] at hu
  obtain ⟨x, _, rfl⟩ := hu
  rfl
theorem cells_at (l : List (List UInt8)) (i : Nat) (h : i < l.length) : (cells l)[i]? = some (.string (bs (l.getD i []))) := by
  simp [cells, List.getD_eq_getElem?_getD, h]
/-- Its cells, as append wants them. -/
theorem SS.cells {A : Option Addr} {l : List (List UInt8)} {w : World} (h : SS A l w) : ∀ ad, A = some ad → ∀ j u, (cells l)[j]? = some u → w.cell? (ad.add j) = some u := by
  intro ad ha k u hu
  have hk : k < l.length := by
    have := (List.getElem?_eq_some_iff.1 hu).1
    rwa [cells_length] at this
  obtain ⟨b, off, hA, _, hx⟩ := h (by omega)
  obtain rfl := Option.some.inj (ha.symm.trans hA)
  rw [Addr.add_lit, ← hu, cells_at l k hk]
  exact hx k hk
theorem SS.of_own {base g cap n : Nat} {e : TypeId} {l : List (List UInt8)} {w : World} (h : w.ownsRow base e 1 (.slice (some ⟨g, 0, none⟩) n cap) n (Sg.cells l)) : SS (some ⟨g, 0, none⟩) l w := fun h0 => by
  have hg := (h.lt g rfl).2
  have hc := h.cells (g := g) rfl
  refine ⟨g, 0, rfl, hg, fun i hi => ?_⟩
  have := hc i _ (cells_at l i hi)
  rwa [Addr.add_lit] at this
/-- A slice value of these strings. -/
def SV (v : Value) (l : List (List UInt8)) (w : World) : Prop := ∃ A c, v = .slice A l.length c ∧ l.length ≤ c ∧ c ≤ maxLen ∧ (A = none → c = 0) ∧ (∀ a, A = some a → ∃ b off, a = ⟨b, off, none⟩) ∧ SS A l w
theorem SV.nil (w : World) : SV (.slice none 0 0) [] w := ⟨none, 0, rfl, Nat.le_refl _, Nat.zero_le _, (fun _ => rfl), (fun a h => by cases h), SS.nil _ _⟩
theorem SV.below {v : Value} {l : List (List UInt8)} {w w' : World} (h : SV v l w) (hb : Below w.heap.size w w') : SV v l w' := by
  obtain ⟨A, c, hv, h1, h2, h3, h4, h5⟩ := h
  exact ⟨A, c, hv, h1, h2, h3, h4, h5.below hb⟩
theorem SV.of_own {base n : Nat} {e : TypeId} {v : Value} {l : List (List UInt8)} {w : World} (h : w.ownsRow base e 1 v n (Sg.cells l)) : SV v l w := by
  have hn : n = l.length := by have := h.1; rw [cells_length] at this; omega
  subst hn
  rcases h.2 with ⟨rfl, h0⟩ | ⟨g, cap, cur, rfl, _, _, h1, h2, _⟩
  · obtain rfl := List.length_eq_zero_iff.1 h0
    exact SV.nil w
  · exact ⟨_, cap, rfl, h1, h2, (fun h => by cases h), (fun a ha => ⟨g, 0, (Option.some.inj ha).symm⟩), SS.of_own h⟩
theorem own_below {w w' : World} {B e size n : Nat} {v : Value} {xs : List Value} (h : w.ownsRow B e size v n xs) (hb : Below w.heap.size w w') : w'.ownsRow B e size v n xs := by
  obtain ⟨hlen, hv⟩ := h
  refine ⟨hlen, ?_⟩
  rcases hv with hv | ⟨g, cap, cur, rfl, hb', hg, hr⟩
  · exact .inl hv
  · exact .inr ⟨g, cap, cur, rfl, hb', (hb.block g (Has.lt (cs := cur) hg)).trans hg, hr⟩
theorem take_succ_getD (l : List (List UInt8)) (k : Nat) (h : k < l.length) : l.take (k + 1) = l.take k ++ [l.getD k []] := by
  rw [List.take_succ_eq_append_getElem h]; simp [List.getD_eq_getElem?_getD, h]
theorem getD_mem (l : List (List UInt8)) (k : Nat) (h : k < l.length) : l.getD k [] ∈ l := by
  simp [List.getD_eq_getElem?_getD, h]
theorem below_grown {B : Nat} {a w w' : World} {row : Option Nat} (h : Below B a w) (hg : w.grownBy w' row) (hB : B ≤ w.heap.size) (hr : ∀ g, row = some g → B ≤ g) : Below B a w' :=
  ⟨hg.os.trans h.os, hg.tape.trans h.tape, hg.output.trans h.output, Nat.le_trans h.size hg.size, fun i hi => (hg.block i (by omega) (fun e => by have := hr i e.symm; omega)).trans (h.block i hi)⟩
theorem infoS : (Tryd.prog.info? 9).map (fun i => (i.zero, i.size, i.bytes)) = some (some (.string ⟨#[]⟩), 1, 16) := by kernel_rfl
theorem cell_lt {w : World} {a : Addr} {v : Value} (h : w.cell? a = some v) : a.block < w.heap.size := by
  rcases Nat.lt_or_ge a.block w.heap.size with h1 | h1
  · exact h1
  · simp [World.cell?, Array.getElem?_eq_none h1] at h
set_option maxRecDepth 100000 in
/-- A slice of strings among the arguments. -/
theorem open_strs {H : Type} {enc : TypeId × Value → H} {w : World} {base : Nat} {spare : Nat → Bool} {held : Bool} {r : Reach} {b0 : Nat} {v : Value} {d : DataW H} {p : List MemPlace}
    (hv : Value.okWide Tryd.prog w r b0 54 v) (h : DataW.Trod enc Tryd.prog w base spare held 54 v d p) :
    ∃ (A : Option Addr) (c : Nat) (l : List (List UInt8)), v = .slice A l.length c ∧ l.length ≤ c ∧ c ≤ maxLen ∧ (A = none → c = 0) ∧ SS A l w ∧ ∀ x ∈ l, x.length ≤ maxLen := by
  obtain ⟨A, len, cap, rfl⟩ := okWide_slice Tryd.underlying54 hv
  obtain ⟨fuel, hf⟩ := h
  rcases open_strings Tryd.underlying54 Tryd.underlying9 (by kernel_rfl) hf with ⟨hcs, _⟩ | ⟨a, len', cap', ss, hcs, _, hl, hm, hz, _, hcell, hsz⟩
  · simp [Value.cells] at hcs
    obtain ⟨rfl, rfl, rfl⟩ := hcs
    exact ⟨none, 0, [], rfl, Nat.le_refl _, Nat.zero_le _, (fun _ => rfl), SS.nil _ _, (fun x hx => by cases hx)⟩
  · simp [Value.cells] at hcs
    obtain ⟨rfl, rfl, rfl⟩ := hcs
    have hle : len ≤ ss.length := by split at hz <;> omega
    have hln : ((ss.take len).map fun s => s.data.toList).length = len := by simp; omega
    refine ⟨some a, cap, (ss.take len).map fun s => s.data.toList, by rw [hln], by omega, hm, (fun h => by cases h), ?_, ?_⟩
    · intro h0
      rw [hln] at h0 ⊢
      obtain ⟨b, off, spot⟩ := a
      have hspot : spot = none := by
        have h1 := hcell 0 (by omega)
        have := World.cell?_spot h1
        simpa [Addr.add] using this
      subst hspot
      refine ⟨b, off, rfl, ?_, fun i hi => ?_⟩
      · exact (cell_lt (hcell 0 (by omega)) : _)
      · have h1 := hcell i (by omega)
        rw [Addr.add_lit] at h1
        rw [h1]
        congr 2
        simp only [List.getD_eq_getElem?_getD, List.getElem?_map, List.getElem?_take, if_pos hi, List.getElem?_eq_getElem (show i < ss.length by omega), Option.map_some, Option.getD_some]
        exact (bs_self _).symm
    · intro x hx
      simp only [List.mem_map] at hx
      obtain ⟨s, hs, rfl⟩ := hx
      simpa using hsz s (List.mem_of_mem_take hs)
end Go.Proofs.YtopacbmdoognjaaDoor.Sg
