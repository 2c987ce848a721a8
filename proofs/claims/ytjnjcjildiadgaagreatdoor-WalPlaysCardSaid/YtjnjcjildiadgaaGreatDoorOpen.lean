/- Arguments opened: what the reading of an argument says of its value, for the kinds that the guide has not. No program in sight. -/
import Derived.ProofKit
import Derived.OpenShut
import Derived.Below
import Derived.Deep.Slices
import Derived.Deep.Fields
namespace Go.Proofs.YtjnjcjildiadgaaGreatDoor.Open
open Go Go.ChangeShapes Go.WideShapes Go.RowKit
section
variable {H : Type} {enc : TypeId × Value → H} {P : Program} {w : World} {base : Nat} {spare : Nat → Bool} {held : Bool}
theorem byte_of {n : Int} (h : (Lit.int .u8 n).wf = true) : ∃ b : UInt8, n = (b.toNat : Int) := by
  have hb := bounds_u8 h
  obtain ⟨m, rfl⟩ := Int.eq_ofNat_of_zero_le hb.1
  refine ⟨UInt8.ofNat m, ?_⟩
  rw [UInt8.toNat_ofNat']
  omega
theorem okWide_array {r : Reach} {b0 : Nat} {t e : TypeId} {n : Nat} {v : Value} (ht : P.underlying t = some (.array n e)) (h : Value.okWide P w r b0 t v) : ∃ cs, v = .agg cs ∧ cs.size = P.cellsOf t := by
  simp only [Value.okWide, ht] at h
  obtain ⟨cs, h1, h2, _⟩ := h
  exact ⟨cs, h1, h2⟩
/-- An array of four bytes, by value. -/
theorem open_bytes4 {r : Reach} {b0 : Nat} {t e : TypeId} {v : Value} {d : DataW H} {p : List MemPlace} (ht : P.underlying t = some (.array 4 e)) (he : P.underlying e = some (.int .u8)) (hC : P.cellsOf t = 4) (hE : P.cellsOf e = 1)
    (hv : Value.okWide P w r b0 t v) (h : DataW.Trod enc P w base spare held t v d p) :
    ∃ t0 t1 t2 t3 : UInt8, v = .agg #[.int .u8 t0.toNat, .int .u8 t1.toNat, .int .u8 t2.toNat, .int .u8 t3.toNat] := by
  obtain ⟨cs, rfl, hsz⟩ := okWide_array ht hv
  obtain ⟨l⟩ := cs
  match l, hsz.trans hC with
  | [c0, c1, c2, c3], _ =>
    obtain ⟨fuel, hf⟩ := h
    obtain ⟨xs, m, _, _, _, hlen, hg⟩ := DataW.trod_array ht hf
    have one : ∀ i c, i < 4 → (([c0, c1, c2, c3].drop i).take 1) = [c] → ∃ b : UInt8, c = .int .u8 b.toNat := by
      intro i c hi hc
      have h1 := hg i hi
      rw [hE, Nat.mul_one] at h1
      simp only [Value.cells] at h1
      rw [hc] at h1
      have hx : ∃ y, xs[i]? = some y := ⟨xs[i]'(by omega), List.getElem?_eq_getElem (by omega)⟩
      obtain ⟨y, hy⟩ := hx
      rw [hy] at h1
      obtain ⟨n, hn, _, hw⟩ := DataW.trod_int he h1
      obtain ⟨b, rfl⟩ := byte_of hw
      exact ⟨b, by simpa using hn⟩
    obtain ⟨t0, rfl⟩ := one 0 c0 (by omega) rfl
    obtain ⟨t1, rfl⟩ := one 1 c1 (by omega) rfl
    obtain ⟨t2, rfl⟩ := one 2 c2 (by omega) rfl
    obtain ⟨t3, rfl⟩ := one 3 c3 (by omega) rfl
    exact ⟨t0, t1, t2, t3, rfl⟩

theorem of_fields {t : TypeId} {fs : Array Field} {fuel : Nat} {cs : List Value} {x : DataW H × List MemPlace} (ht : P.underlying t = some (.struct fs)) (hone : Go.Deep.oneCellFields P fs = true) (hC : P.cellsOf t = fs.size)
    (h : DataW.trod enc P w base spare held fuel t cs = some x) : cs.length = fs.size ∧ ∀ (j : Nat) (f : Field), fs[j]? = some f → ∃ (v : Value) (y : DataW H × List MemPlace) (m : Nat), cs[j]? = some v ∧ DataW.trod enc P w base spare held m f.type [v] = some y := by
  obtain ⟨ys, n, _, _, hlen, hyl, hf⟩ := DataW.trod_struct ht h
  refine ⟨hlen.trans hC, fun j f hj => ?_⟩
  obtain ⟨ho, hk⟩ := Go.Deep.hone_of hone j f hj
  have hjl : j < fs.size := (Array.getElem?_eq_some_iff.1 hj).1
  have hjc : j < cs.length := by omega
  have h1 := hf j f hj
  have e1 : (cs.drop j).take 1 = [cs[j]] := by rw [List.drop_eq_getElem_cons hjc]; rfl
  rw [ho, hk, e1, List.getElem?_eq_getElem (show j < ys.length by omega)] at h1
  exact ⟨cs[j], _, n, List.getElem?_eq_getElem hjc, h1⟩
/-- A slice of structs of one-cell fields: each field of each element lies in its own cell, and reads. -/
theorem open_rows {r : Reach} {b0 : Nat} {t e : TypeId} {fs : Array Field} {v : Value} {d : DataW H} {p : List MemPlace} (ht : P.underlying t = some (.slice e)) (he : P.underlying e = some (.struct fs))
    (hone : Go.Deep.oneCellFields P fs = true) (hC : P.cellsOf e = fs.size) (hpos : 0 < fs.size) (hv : Value.okWide P w r b0 t v) (h : DataW.Trod enc P w base spare held t v d p) :
    ∃ (A : Option Addr) (len cap : Nat), v = .slice A len cap ∧ len ≤ maxLen ∧ (0 < len → ∃ b off, A = some ⟨b, off, none⟩ ∧
      ∀ i, i < len → ∀ (j : Nat) (f : Field), fs[j]? = some f → ∃ (x : Value) (y : DataW H × List MemPlace) (m : Nat), w.cell? ⟨b, off + i * fs.size + j, none⟩ = some x ∧ DataW.trod enc P w base spare held m f.type [x] = some y) := by
  obtain ⟨A, len, cap, rfl⟩ := okWide_slice ht hv
  obtain ⟨fuel, hf⟩ := h
  rcases Go.Deep.open_slice ht hf with ⟨hcs, _⟩ | ⟨a, len', cap', m, n, D, Pl, hcs, _, hl, hm, hmm, _, hi⟩
  · simp [Value.cells] at hcs
    obtain ⟨rfl, rfl, rfl⟩ := hcs
    exact ⟨none, 0, 0, rfl, Nat.zero_le _, fun h => absurd h (Nat.lt_irrefl 0)⟩
  · simp [Value.cells] at hcs
    obtain ⟨rfl, rfl, rfl⟩ := hcs
    refine ⟨some a, len, cap, rfl, by omega, fun h0 => ?_⟩
    have hmle : len ≤ m := by split at hmm <;> omega
    obtain ⟨b, off, spot⟩ := a
    have hspot : spot = none := by
      obtain ⟨cs', hc, ht'⟩ := hi 0 (by omega)
      obtain ⟨_, hcl, hat⟩ := World.cells?_some hc
      obtain ⟨hl', _⟩ := of_fields he hone hC ht'
      have h1 := hat 0 (by omega)
      rw [List.getElem?_eq_getElem (show 0 < cs'.length by omega)] at h1
      simpa [Addr.add] using World.cell?_spot h1
    subst hspot
    refine ⟨b, off, rfl, fun i him j f hj => ?_⟩
    obtain ⟨cs', hc, ht'⟩ := hi i (by omega)
    obtain ⟨_, hcl, hat⟩ := World.cells?_some hc
    obtain ⟨hl', hfs⟩ := of_fields he hone hC ht'
    obtain ⟨x, y, k, hx, hy⟩ := hfs j f hj
    have hjl : j < fs.size := (Array.getElem?_eq_some_iff.1 hj).1
    refine ⟨x, y, k, ?_, hy⟩
    have h1 := hat j (by omega)
    rw [hx, hC] at h1
    rw [← h1]
    congr 1
    simp only [Addr.add]
    split <;> split <;> simp_all
/-- From 'for each place there is something' to a list. -/
theorem list_of {α : Type} [Inhabited α] (n : Nat) (Q : Nat → α → Prop) (h : ∀ i, i < n → ∃ x, Q i x) : ∃ l : List α, l.length = n ∧ ∀ i, i < n → Q i (l.getD i default) := by
  induction n with
  | zero => exact ⟨[], rfl, fun i hi => absurd hi (Nat.not_lt_zero i)⟩
  | succ n ih =>
    obtain ⟨l, hl, hq⟩ := ih fun i hi => h i (by omega)
    obtain ⟨x, hx⟩ := h n (by omega)
    refine ⟨l ++ [x], by simp [hl], fun i hi => ?_⟩
    by_cases hin : i < n
    · have := hq i hin
      simpa [List.getD_eq_getElem?_getD, List.getElem?_append_left (show i < l.length by omega)] using this
    · obtain rfl : i = n := by omega
      simpa [List.getD_eq_getElem?_getD, ← hl] using hx
theorem int_of {t : TypeId} {k : IntKind} {m : Nat} {x : Value} {y : DataW H × List MemPlace} (ht : P.underlying t = some (.int k)) (h : DataW.trod enc P w base spare held m t [x] = some y) : ∃ n, x = .int k n ∧ (Lit.int k n).wf = true := by
  obtain ⟨n, hn, _, hw⟩ := DataW.trod_int ht h
  exact ⟨n, by simpa using hn, hw⟩
theorem byte_cell {t : TypeId} {m : Nat} {x : Value} {y : DataW H × List MemPlace} (ht : P.underlying t = some (.int .u8)) (h : DataW.trod enc P w base spare held m t [x] = some y) : ∃ b : UInt8, x = .int .u8 b.toNat := by
  obtain ⟨n, rfl, hw⟩ := int_of ht h
  obtain ⟨b, rfl⟩ := byte_of hw
  exact ⟨b, rfl⟩
theorem u64_cell {t : TypeId} {m : Nat} {x : Value} {y : DataW H × List MemPlace} (ht : P.underlying t = some (.int .u64)) (h : DataW.trod enc P w base spare held m t [x] = some y) : ∃ n : Nat, x = .int .u64 n ∧ n < 18446744073709551616 := by
  obtain ⟨n, rfl, hw⟩ := int_of ht h
  have hb := bounds_u64 hw
  obtain ⟨m, rfl⟩ := Int.eq_ofNat_of_zero_le hb.1
  exact ⟨m, rfl, by omega⟩
theorem i64_cell {t : TypeId} {m : Nat} {x : Value} {y : DataW H × List MemPlace} (ht : P.underlying t = some (.int .i64)) (h : DataW.trod enc P w base spare held m t [x] = some y) : ∃ n : Int, x = .int .i64 n ∧ -9223372036854775808 ≤ n ∧ n ≤ 9223372036854775807 := by
  obtain ⟨n, rfl, hw⟩ := int_of ht h
  exact ⟨n, rfl, bounds_i64 hw⟩
theorem str_cell {t : TypeId} {m : Nat} {x : Value} {y : DataW H × List MemPlace} (ht : P.underlying t = some .string) (h : DataW.trod enc P w base spare held m t [x] = some y) : ∃ s : ByteArray, x = .string s ∧ s.size ≤ maxLen := by
  obtain ⟨s, hs, _, hw⟩ := DataW.trod_string ht h
  exact ⟨s, by simpa using hs, hw⟩
end
end Go.Proofs.YtjnjcjildiadgaaGreatDoor.Open
