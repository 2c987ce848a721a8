/- Rows of frames: slices that are read, that a call owns. -/
import Derived.Test.YtjnjcjildiadgaaGreatDoorFrameWalk
import Derived.Test.YtjnjcjildiadgaaGreatDoorSegRows
import Derived.Laws.AppendOwnNone
namespace Go.Proofs.YtjnjcjildiadgaaGreatDoor.Fd
open Go Go.RowKit Frame Oct Frm
def fcs1 (f : Fm) : List Value := [.int .u8 f.ch.toNat, .int .u8 f.kd.toNat, .string (bs f.body)]
def fcs (l : List Fm) : List Value := l.flatMap fcs1
theorem fcs_length (l : List Fm) : (fcs l).length = l.length * 3 := by
  induction l with
  | nil => rfl
  | cons x l ih => rw [fcs, List.flatMap_cons, List.length_append, ← fcs, ih]; simp [fcs1]; omega
theorem fcs_append (a b : List Fm) : fcs (a ++ b) = fcs a ++ fcs b := by simp [fcs]
theorem fcs_one (x : Fm) : fcs [x] = fcs1 x := by simp [fcs]
theorem fcs_oneCell (l : List Fm) : ∀ u ∈ fcs l, u.oneCell' = true := by
  intro u hu
  simp only [fcs, List.mem_flatMap] at hu
  obtain ⟨x, _, hx⟩ := hu
  simp [fcs1] at hx
  rcases hx with rfl | rfl | rfl <;> rfl
theorem fcs_at (l : List Fm) : ∀ i, i < l.length → ∀ j, j < 3 → (fcs l)[i * 3 + j]? = (fcs1 (l.getD i default))[j]? := by
  induction l with
  | nil => intro i h; cases h
  | cons x l ih =>
    intro i h j hj
    rw [fcs, List.flatMap_cons, ← fcs]
    cases i with
    | zero =>
      rw [List.getElem?_append_left (by simp [fcs1]; omega)]
      simp
    | succ i =>
      rw [List.getElem?_append_right (by simp [fcs1]; omega)]
      have hc : (i + 1) * 3 + j - (fcs1 x).length = i * 3 + j := by simp [fcs1]; omega
      rw [hc, ih i (by simpa using h) j hj]
      simp
theorem fcs_of (l : List Fm) (k : Nat) (u : Value) (h : (fcs l)[k]? = some u) : ∃ i j, i < l.length ∧ j < 3 ∧ k = i * 3 + j ∧ (fcs1 (l.getD i default))[j]? = some u := by
  have hk := (List.getElem?_eq_some_iff.1 h).1
  rw [fcs_length] at hk
  have hi : k / 3 < l.length := by omega
  have hj : k % 3 < 3 := Nat.mod_lt _ (by decide)
  refine ⟨k / 3, k % 3, hi, hj, by omega, ?_⟩
  rw [← fcs_at l _ hi _ hj, ← h]
  congr 1
  omega
def FAt (b o : Nat) (x : Fm) (w : World) : Prop :=
  w.cell? ⟨b, o, none⟩ = some (.int .u8 x.ch.toNat) ∧ w.cell? ⟨b, o + 1, none⟩ = some (.int .u8 x.kd.toNat) ∧ w.cell? ⟨b, o + 2, none⟩ = some (.string (bs x.body))
/-- A slice of frames lies in w. -/
def FrS (A : Option Addr) (l : List Fm) (w : World) : Prop :=
  0 < l.length → ∃ b off, A = some ⟨b, off, none⟩ ∧ b < w.heap.size ∧ ∀ i, i < l.length → FAt b (off + i * 3) (l.getD i default) w
theorem FrS.nil (A : Option Addr) (w : World) : FrS A [] w := fun h => absurd h (Nat.lt_irrefl 0)
theorem FrS.below {A : Option Addr} {l : List Fm} {w w' : World} (h : FrS A l w) (hb : Below w.heap.size w w') : FrS A l w' := fun h0 => by
  obtain ⟨b, off, hA, hlt, hi⟩ := h h0
  refine ⟨b, off, hA, Nat.lt_of_lt_of_le hlt hb.size, fun i hil => ?_⟩
  obtain ⟨c0, c1, c2⟩ := hi i hil
  have hc := fun o => hb.cell (p := ⟨b, o, none⟩) hlt
  exact ⟨by rw [hc]; exact c0, by rw [hc]; exact c1, by rw [hc]; exact c2⟩
theorem FrS.cells {A : Option Addr} {l : List Fm} {w : World} (h : FrS A l w) : ∀ ad, A = some ad → ∀ j u, (fcs l)[j]? = some u → w.cell? (ad.add j) = some u := by
  intro ad ha k u hu
  obtain ⟨i, j, hi, hj, rfl, hc⟩ := fcs_of l k u hu
  obtain ⟨b, off, hA, _, hx⟩ := h (by omega)
  obtain rfl := Option.some.inj (ha.symm.trans hA)
  obtain ⟨c0, c1, c2⟩ := hx i hi
  rw [Addr.add_lit, ← Nat.add_assoc]
  match j, hj with
  | 0, _ => simp [fcs1] at hc; rw [← hc]; exact c0
  | 1, _ => simp [fcs1] at hc; rw [← hc]; exact c1
  | 2, _ => simp [fcs1] at hc; rw [← hc]; exact c2
theorem FrS.of_own {base g cap n : Nat} {e : TypeId} {l : List Fm} {w : World} (h : w.ownsRow base e 3 (.slice (some ⟨g, 0, none⟩) n cap) n (fcs l)) : FrS (some ⟨g, 0, none⟩) l w := fun h0 => by
  have hg := (h.lt g rfl).2
  have hc := h.cells (g := g) rfl
  refine ⟨g, 0, rfl, hg, fun i hi => ?_⟩
  have hat := fun j hj => fcs_at l i hi j hj
  have one : ∀ j u, j < 3 → (fcs1 (l.getD i default))[j]? = some u → w.cell? ⟨g, 0 + i * 3 + j, none⟩ = some u := fun j u hj hu => by
    have := hc (i * 3 + j) u ((hat j hj).trans hu)
    rw [Addr.add_lit] at this
    rw [← this]
    congr 2
    omega
  exact ⟨one 0 _ (by decide) rfl, one 1 _ (by decide) rfl, one 2 _ (by decide) rfl⟩
/-- A slice value of these frames. -/
def FL (v : Value) (l : List Fm) (w : World) : Prop := ∃ A c, v = .slice A l.length c ∧ l.length ≤ c ∧ c ≤ maxLen ∧ (A = none → l.length = 0 ∧ c = 0) ∧ FrS A l w
theorem FL.nil (w : World) : FL (.slice none 0 0) [] w := ⟨none, 0, rfl, Nat.le_refl _, Nat.zero_le _, (fun _ => ⟨rfl, rfl⟩), FrS.nil _ _⟩
theorem FL.below {v : Value} {l : List Fm} {w w' : World} (h : FL v l w) (hb : Below w.heap.size w w') : FL v l w' := by
  obtain ⟨A, c, hv, h1, h2, h3, h4⟩ := h
  exact ⟨A, c, hv, h1, h2, h3, h4.below hb⟩
theorem FL.of_own {base n : Nat} {e : TypeId} {v : Value} {l : List Fm} {w : World} (h : w.ownsRow base e 3 v n (fcs l)) : FL v l w := by
  have hn : n = l.length := by have := h.1; rw [fcs_length] at this; omega
  subst hn
  rcases h.2 with ⟨rfl, h0⟩ | ⟨g, cap, cur, rfl, _, _, h1, h2, _⟩
  · obtain rfl := List.length_eq_zero_iff.1 h0
    exact FL.nil w
  · exact ⟨_, cap, rfl, h1, h2, (fun h => by cases h), FrS.of_own h⟩
theorem FrS.one {q : Nat} {x : Fm} {t : TypeId} {w : World} (h : Has q #[.int .u8 x.ch.toNat, .int .u8 x.kd.toNat, .string (bs x.body)] t w) : FrS (some ⟨q, 0, none⟩) [x] w := fun _ => by
  refine ⟨q, 0, rfl, h.lt, fun i hi => ?_⟩
  obtain rfl : i = 0 := by simpa using hi
  exact ⟨h.cell 0, h.cell 1, h.cell 2⟩
theorem has_grown {b : Nat} {cs : Array Value} {t : TypeId} {w w' : World} {row : Option Nat} (h : Has b cs t w) (hg : w.grownBy w' row) (hne : some b ≠ row) : Has b cs t w' := (hg.block b h.lt hne).trans h
theorem getD_mem {α : Type} [Inhabited α] (l : List α) (k : Nat) (h : k < l.length) : l.getD k default ∈ l := by
  simp [List.getD_eq_getElem?_getD, h]
theorem take_succ_getD {α : Type} [Inhabited α] (l : List α) (k : Nat) (h : k < l.length) : l.take (k + 1) = l.take k ++ [l.getD k default] := by
  rw [List.take_succ_eq_append_getElem h]; simp [List.getD_eq_getElem?_getD, h]
/-- How many bytes a string in a cell has. -/
def restAt (b : Nat) (w : World) : Nat := match w.cell? ⟨b, 0, none⟩ with | some (.string s) => s.size | _ => 0
theorem restAt_eq {b : Nat} {l : List UInt8} {v : Value} {t : TypeId} {w : World} (h : Has b #[.string (bs l), v] t w) : restAt b w = l.length := by
  unfold restAt
  rw [h.cell 0]
  exact bs_size l
def strLen (v : Value) : Nat := match v with | .string s => s.size | _ => 0
theorem append_any {P : Program} (w : World) {ops : Array Oper} {rest : List Oper} {o : Oper} {a : Act} {Q : Exit → Act → World → Prop} (hgd : o.guard = none) (s x : Operand) (t : TypeId)
    (ho : o.op = .call { callee := .builtin .append, args := #[s, x], argTypes := #[t, t] })
    (base : Nat) (e : TypeId) (i : TypeInfo) (z : Value) (size bytes : Nat) (ht : P.underlying t = some (.slice e)) (hi : P.info? e = some i) (hz : i.zero = some z)
    (hsize : i.size = size) (hby : i.bytes = bytes) (hzs : z.cells.size = size) (hsz : 0 < size)
    (v : Value) (n : Nat) (xs : List Value) (hs : a.eval s = v) (hown : w.ownsRow base e size v n xs)
    (ao : Option Addr) (m c : Nat) (news : List Value) (hx : a.eval x = .slice ao m c) (hl : news.length = m * size) (hnone : ao = none → m = 0 ∧ c = 0) (hnews : ∀ ad, ao = some ad → ∀ j u, news[j]? = some u → w.cell? (ad.add j) = some u) (h1 : ∀ u ∈ news, u.oneCell' = true)
    (h63 : n + m ≤ maxLen) (hbytes : (n + m) * bytes ≤ 140737488355328) (hbase : base ≤ w.heap.size)
    (h : ∀ v' w', w'.ownsRow base e size v' (n + m) (xs ++ news) → w.grownBy w' v.ownBlock → wpList P ops Q rest (a.put o.dst v') w') : wpList P ops Q (o :: rest) a w := by
  cases ao with
  | some ad => exact wpList_append_own w hgd s x t ho base e i z size bytes ht hi hz hsize hby hzs hsz v n xs hs hown ad m c news hx hl (hnews ad rfl) h1 h63 hbytes hbase (fun v' w' a b _ => h v' w' a b)
  | none =>
    obtain ⟨rfl, rfl⟩ := hnone rfl
    have hn : news = [] := List.eq_nil_of_length_eq_zero (by simpa using hl)
    subst hn
    exact wpList_append_own_none hgd s x t ho base e i size ht hi v n xs hs hown hx (h v w (by simpa using hown) (World.grownBy.refl _ _))
end Go.Proofs.YtjnjcjildiadgaaGreatDoor.Fd
