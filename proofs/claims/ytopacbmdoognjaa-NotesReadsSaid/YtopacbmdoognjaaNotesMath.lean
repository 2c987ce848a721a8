/- Notes: what they are, and how a slice of them lies. -/
import Derived.Test.YtopacbmdoognjaaOpen
import Derived.Test.YtopacbmdoognjaaDiskA
namespace Go.Proofs.Ytopacbmdoognjaa.Not
open Go Go.RowKit Frame
structure Nt where
  tick : Nat
  kind : UInt8
  text : ByteArray
def Nt.zero : Nt := ⟨0, 0, ⟨#[]⟩⟩
instance : Inhabited Nt := ⟨Nt.zero⟩
def Nt.Ok (x : Nt) : Prop := x.tick < 18446744073709551616 ∧ x.text.size ≤ maxLen
/-- A note by value. -/
def NV (x : Nt) : Value := .agg #[.int .u64 x.tick, .int .u8 x.kind.toNat, .string x.text]
def Nt.cs (x : Nt) : List Value := [.int .u64 x.tick, .int .u8 x.kind.toNat, .string x.text]
def css (l : List Nt) : List Value := l.flatMap Nt.cs
theorem css_length (l : List Nt) : (css l).length = l.length * 3 := by
  induction l with
  | nil => rfl
  | cons x l ih => rw [css, List.flatMap_cons, List.length_append, ← css, ih]; simp [Nt.cs]; omega
theorem css_append (a b : List Nt) : css (a ++ b) = css a ++ css b := by simp [css]
theorem css_one (x : Nt) : css [x] = x.cs := by simp [css]
theorem css_oneCell (l : List Nt) : ∀ u ∈ css l, u.oneCell' = true := by
  intro u hu
  simp only [css, List.mem_flatMap] at hu
  obtain ⟨x, _, hx⟩ := hu
  simp [Nt.cs] at hx
  rcases hx with rfl | rfl | rfl <;> rfl
theorem css_at (l : List Nt) : ∀ i, i < l.length → ∀ j, j < 3 → (css l)[i * 3 + j]? = ((l.getD i default).cs)[j]? := by
  induction l with
  | nil => intro i h; cases h
  | cons x l ih =>
    intro i h j hj
    rw [css, List.flatMap_cons, ← css]
    cases i with
    | zero =>
      rw [List.getElem?_append_left (by simp [Nt.cs]; omega)]
      simp
    | succ i =>
      rw [List.getElem?_append_right (by simp [Nt.cs]; omega)]
      have hc : (i + 1) * 3 + j - x.cs.length = i * 3 + j := by simp [Nt.cs]; omega
      rw [hc, ih i (by simpa using h) j hj]
      simp
theorem css_of (l : List Nt) (k : Nat) (u : Value) (h : (css l)[k]? = some u) : ∃ i j, i < l.length ∧ j < 3 ∧ k = i * 3 + j ∧ ((l.getD i default).cs)[j]? = some u := by
  have hk := (List.getElem?_eq_some_iff.1 h).1
  rw [css_length] at hk
  have hi : k / 3 < l.length := by omega
  have hj : k % 3 < 3 := Nat.mod_lt _ (by decide)
  refine ⟨k / 3, k % 3, hi, hj, by omega, ?_⟩
  rw [← css_at l _ hi _ hj, ← h]
  congr 1
  omega
/-- A note's three cells. -/
def NtAt (b o : Nat) (x : Nt) (w : World) : Prop :=
  w.cell? ⟨b, o, none⟩ = some (.int .u64 x.tick) ∧ w.cell? ⟨b, o + 1, none⟩ = some (.int .u8 x.kind.toNat) ∧ w.cell? ⟨b, o + 2, none⟩ = some (.string x.text)
/-- A slice of notes lies in w, in blocks of F. -/
def Nts (A : Option Addr) (l : List Nt) (w : World) : Prop :=
  0 < l.length → ∃ b off, A = some ⟨b, off, none⟩ ∧ b < w.heap.size ∧ ∀ i, i < l.length → NtAt b (off + i * 3) (l.getD i default) w
theorem Nts.nil (A : Option Addr) (w : World) : Nts A [] w := fun h => absurd h (Nat.lt_irrefl 0)
theorem Nts.below {A : Option Addr} {l : List Nt} {w w' : World} (h : Nts A l w) (hb : Below w.heap.size w w') : Nts A l w' := fun h0 => by
  obtain ⟨b, off, hA, hlt, hi⟩ := h h0
  refine ⟨b, off, hA, Nat.lt_of_lt_of_le hlt hb.size, fun i hil => ?_⟩
  obtain ⟨c0, c1, c2⟩ := hi i hil
  have hc := fun o => hb.cell (p := ⟨b, o, none⟩) hlt
  exact ⟨by rw [hc]; exact c0, by rw [hc]; exact c1, by rw [hc]; exact c2⟩
/-- Its cells, as append wants them. -/
theorem Nts.cells {A : Option Addr} {l : List Nt} {w : World} (h : Nts A l w) : ∀ ad, A = some ad → ∀ j u, (css l)[j]? = some u → w.cell? (ad.add j) = some u := by
  intro ad ha k u hu
  obtain ⟨i, j, hi, hj, rfl, hc⟩ := css_of l k u hu
  obtain ⟨b, off, hA, _, hx⟩ := h (by omega)
  obtain rfl := Option.some.inj (ha.symm.trans hA)
  obtain ⟨c0, c1, c2⟩ := hx i hi
  rw [Addr.add_lit, ← Nat.add_assoc]
  match j, hj with
  | 0, _ => simp [Nt.cs] at hc; rw [← hc]; exact c0
  | 1, _ => simp [Nt.cs] at hc; rw [← hc]; exact c1
  | 2, _ => simp [Nt.cs] at hc; rw [← hc]; exact c2
/-- What a call owns reads as notes, from any place on. -/
theorem Nts.of_own {base g cap n : Nat} {e : TypeId} {l : List Nt} {w : World} (h : w.ownsRow base e 3 (.slice (some ⟨g, 0, none⟩) n cap) n (css l)) (k : Nat) (hk : k ≤ l.length) : Nts (some ⟨g, k * 3, none⟩) (l.drop k) w := fun h0 => by
  have hg := (h.lt g rfl).2
  have hc := h.cells (g := g) rfl
  have hn : n = l.length := by have := h.1; rw [css_length] at this; omega
  refine ⟨g, k * 3, rfl, hg, fun i hi => ?_⟩
  have hi' : k + i < l.length := by simpa [Nat.add_comm] using (by simpa using hi : i < l.length - k) |> (fun h => (by omega : k + i < l.length))
  have hd : (l.drop k).getD i default = l.getD (k + i) default := by simp [List.getD_eq_getElem?_getD]
  have hat := fun j hj => css_at l (k + i) hi' j hj
  rw [hd]
  have one : ∀ j u, j < 3 → ((l.getD (k + i) default).cs)[j]? = some u → w.cell? ⟨g, k * 3 + i * 3 + j, none⟩ = some u := fun j u hj hu => by
    have := hc ((k + i) * 3 + j) u ((hat j hj).trans hu)
    rw [Addr.add_lit, Nat.zero_add] at this
    rw [← this]
    congr 2
    omega
  exact ⟨one 0 _ (by decide) rfl, one 1 _ (by decide) rfl, one 2 _ (by decide) rfl⟩
/-- One note more, plainly: how many came, which are kept, the answer. -/
def addN (tot : Nat) (l : List Nt) (x : Nt) : Nat × List Nt × Int :=
  if 64 < x.text.size then (tot, l, 5) else if tot = 18446744073709551615 then (tot, l, 18) else (tot + 1, (l ++ [x]).drop (l.length + 1 - 32), 0)
theorem take_succ_getD {α : Type} [Inhabited α] (l : List α) (k : Nat) (h : k < l.length) : l.take (k + 1) = l.take k ++ [l.getD k default] := by
  rw [List.take_succ_eq_append_getElem h]; simp [List.getD_eq_getElem?_getD, h]
theorem getD_mem {α : Type} [Inhabited α] (l : List α) (k : Nat) (h : k < l.length) : l.getD k default ∈ l := by
  simp [List.getD_eq_getElem?_getD, h]
theorem mem_getD {α : Type} [Inhabited α] {l : List α} {x : α} (h : x ∈ l) : ∃ i, i < l.length ∧ l.getD i default = x := by
  obtain ⟨i, hi, rfl⟩ := List.getElem_of_mem h
  exact ⟨i, hi, by simp [List.getD_eq_getElem?_getD, hi]⟩
end Go.Proofs.Ytopacbmdoognjaa.Not
