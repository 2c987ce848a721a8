/- An argument of type []Item, opened. -/
import Derived.Test.YtopacbmdoognjaaOctItems
namespace Go.Proofs.Ytopacbmdoognjaa.Oct
open Go Go.RowKit Go.ChangeShapes Go.WideShapes Frame
theorem cell_lt {w : World} {a : Addr} {v : Value} (h : w.cell? a = some v) : a.block < w.heap.size := by
  rcases Nat.lt_or_ge a.block w.heap.size with h1 | h1
  · exact h1
  · simp [World.cell?, Array.getElem?_eq_none h1] at h
theorem mem_getD {α : Type} [Inhabited α] {l : List α} {x : α} (h : x ∈ l) : ∃ i, i < l.length ∧ l.getD i default = x := by
  obtain ⟨i, hi, rfl⟩ := List.getElem_of_mem h
  exact ⟨i, hi, by simp [List.getD_eq_getElem?_getD, hi]⟩
set_option maxRecDepth 100000 in
theorem open_items {H : Type} {enc : TypeId × Value → H} {w : World} {base : Nat} {spare : Nat → Bool} {held : Bool} {r : Reach} {b0 : Nat} {v : Value} {d : DataW H} {p : List MemPlace}
    (hv : Value.okWide Try.prog w r b0 22 v) (h : DataW.Trod enc Try.prog w base spare held 22 v d p) :
    ∃ (A : Option Addr) (c : Nat) (l : List Item), v = .slice A l.length c ∧ l.length ≤ maxLen ∧ Items A l w ∧ ∀ x ∈ l, x.Ok := by
  obtain ⟨A, len, cap, rfl, hlen, hrow⟩ := Open.open_rows Try.underlying22 Try.underlying27 (by kernel_rfl) (by kernel_rfl) (by decide) hv h
  by_cases h0 : 0 < len
  · obtain ⟨b, off, rfl, hr⟩ := hrow h0
    have hex : ∀ i, i < len → ∃ x : Item, ItemAt b (off + i * 4) x w ∧ x.Ok := fun i hi => by
      obtain ⟨x0, y0, m0, c0, t0⟩ := hr i hi 0 _ rfl
      obtain ⟨x1, y1, m1, c1, t1⟩ := hr i hi 1 _ rfl
      obtain ⟨x2, y2, m2, c2, t2⟩ := hr i hi 2 _ rfl
      obtain ⟨x3, y3, m3, c3, t3⟩ := hr i hi 3 _ rfl
      obtain ⟨k, rfl⟩ := Open.byte_cell Try.underlying5 t0
      obtain ⟨n, rfl, hn⟩ := Open.u64_cell Try.underlying25 t1
      obtain ⟨z, rfl, hz⟩ := Open.i64_cell Try.underlying3 t2
      obtain ⟨s, rfl, hs⟩ := Open.str_cell Try.underlying9 t3
      exact ⟨⟨k, n, z, s⟩, ⟨c0, c1, c2, c3⟩, hn, hz, hs⟩
    obtain ⟨l, rfl, hl⟩ := Open.list_of len _ hex
    refine ⟨_, cap, l, rfl, hlen, fun _ => ⟨b, off, rfl, cell_lt (hl 0 h0).1.1, fun i hi => (hl i hi).1⟩, fun x hx => ?_⟩
    obtain ⟨i, hi, rfl⟩ := mem_getD hx
    exact (hl i hi).2
  · obtain rfl : len = 0 := by omega
    exact ⟨A, cap, [], rfl, Nat.zero_le _, fun h => absurd h (Nat.lt_irrefl 0), fun x hx => by cases hx⟩
end Go.Proofs.Ytopacbmdoognjaa.Oct
