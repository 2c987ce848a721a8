/- Notes among the arguments, opened. -/
import Derived.Test.YtopacbmdoognjaaNotesKept
namespace Go.Proofs.Ytopacbmdoognjaa.Not
open Go Go.RowKit Go.ChangeShapes Go.WideShapes Frame
theorem cell_lt {w : World} {a : Addr} {v : Value} (h : w.cell? a = some v) : a.block < w.heap.size := by
  rcases Nat.lt_or_ge a.block w.heap.size with h1 | h1
  · exact h1
  · simp [World.cell?, Array.getElem?_eq_none h1] at h
set_option maxRecDepth 100000 in
theorem open_notes {H : Type} {enc : TypeId × Value → H} {w : World} {base : Nat} {spare : Nat → Bool} {held : Bool} {r : Reach} {b0 : Nat} {v : Value} {d : DataW H} {p : List MemPlace}
    (hv : Value.okWide Try.prog w r b0 71 v) (h : DataW.Trod enc Try.prog w base spare held 71 v d p) :
    ∃ (A : Option Addr) (c : Nat) (l : List Nt), v = .slice A l.length c ∧ l.length ≤ maxLen ∧ Nts A l w ∧ ∀ x ∈ l, x.Ok := by
  obtain ⟨A, len, cap, rfl, hlen, hrow⟩ := Open.open_rows Try.underlying71 Try.underlying76 (by kernel_rfl) (by kernel_rfl) (by decide) hv h
  by_cases h0 : 0 < len
  · obtain ⟨b, off, rfl, hr⟩ := hrow h0
    have hex : ∀ i, i < len → ∃ x : Nt, NtAt b (off + i * 3) x w ∧ x.Ok := fun i hi => by
      obtain ⟨x0, y0, m0, c0, t0⟩ := hr i hi 0 _ rfl
      obtain ⟨x1, y1, m1, c1, t1⟩ := hr i hi 1 _ rfl
      obtain ⟨x2, y2, m2, c2, t2⟩ := hr i hi 2 _ rfl
      obtain ⟨n, rfl, hn⟩ := Open.u64_cell Try.underlying25 t0
      obtain ⟨k, rfl⟩ := Open.byte_cell Try.underlying5 t1
      obtain ⟨s, rfl, hs⟩ := Open.str_cell Try.underlying9 t2
      exact ⟨⟨n, k, s⟩, ⟨c0, c1, c2⟩, hn, hs⟩
    obtain ⟨l, rfl, hl⟩ := Open.list_of len _ hex
    refine ⟨_, cap, l, rfl, hlen, fun _ => ⟨b, off, rfl, cell_lt (hl 0 h0).1.1, fun i hi => (hl i hi).1⟩, fun x hx => ?_⟩
    obtain ⟨i, hi, rfl⟩ := mem_getD hx
    exact (hl i hi).2
  · obtain rfl : len = 0 := by omega
    exact ⟨A, cap, [], rfl, Nat.zero_le _, fun h => absurd h (Nat.lt_irrefl 0), fun x hx => by cases hx⟩
end Go.Proofs.Ytopacbmdoognjaa.Not
