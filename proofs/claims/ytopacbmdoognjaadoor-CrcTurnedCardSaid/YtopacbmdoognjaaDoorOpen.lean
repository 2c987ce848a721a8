/- Arguments opened: what the reading of an argument says of its value, for the kinds that the guide has not. No program in sight. -/
import Derived.ProofKit
import Derived.OpenShut
import Derived.Below
namespace Go.Proofs.YtopacbmdoognjaaDoor.Open
open Go Go.ChangeShapes Go.WideShapes Go.RowKit
section
variable {H : Type} {enc : TypeId × Value → H} {P : Program} {w : World} {base : Nat} {spare : Nat → Bool} {held : Bool}
theorem byte_of {n : Int} (h : (Lit.int .u8 n).wf = true) : ∃ b : UInt8, n = (b.toNat : Int) := by
  have hb := bounds_u8 h
  obtain ⟨m, rfl⟩ := Int.eq_ofNat_of_zero_le hb.1
  refine ⟨UInt8.ofNat m, ?_⟩
  rw [UInt8.toNat_ofNat']
  omega
theorem okWide_array {r : Reach} {b0 : Nat} {t e : TypeId} {n : Nat} {v : Value} (ht : P.underlying t = some (.array n e)) (h : Value.okWide P w r b0 t v) : ∃ cs, v = .agg cs ∧ cs.size = P.cellsOf t := by
  simp only [Value.okWide, ht] at h
  obtain ⟨cs, h1, h2, _⟩ := h
  exact ⟨cs, h1, h2⟩
/-- An array of four bytes, by value. -/
theorem open_bytes4 {r : Reach} {b0 : Nat} {t e : TypeId} {v : Value} {d : DataW H} {p : List MemPlace} (ht : P.underlying t = some (.array 4 e)) (he : P.underlying e = some (.int .u8)) (hC : P.cellsOf t = 4) (hE : P.cellsOf e = 1)
    (hv : Value.okWide P w r b0 t v) (h : DataW.Trod enc P w base spare held t v d p) :
    ∃ t0 t1 t2 t3 : UInt8, v = .agg #[.int .u8 t0.toNat, .int .u8 t1.toNat, .int .u8 t2.toNat, .int .u8 t3.toNat] := by
  obtain ⟨cs, rfl, hsz⟩ := okWide_array ht hv
  obtain ⟨l⟩ := cs
  match l, hsz.trans hC with
  | [c0, c1, c2, c3], _ =>
    obtain ⟨fuel, hf⟩ := h
    obtain ⟨xs, m, _, _, _, hlen, hg⟩ := DataW.trod_array ht hf
    have one : ∀ i c, i < 4 → (([c0, c1, c2, c3].drop i).take 1) = [c] → ∃ b : UInt8, c = .int .u8 b.toNat := by
      intro i c hi hc
      have h1 := hg i hi
      rw [hE, Nat.mul_one] at h1
      simp only [Value.cells] at h1
      rw [hc] at h1
      have hx : ∃ y, xs[i]? = some y := ⟨xs[i]'(by omega), List.getElem?_eq_getElem (by omega)⟩
      obtain ⟨y, hy⟩ := hx
      rw [hy] at h1
      obtain ⟨n, hn, _, hw⟩ := DataW.trod_int he h1
      obtain ⟨b, rfl⟩ := byte_of hw
      exact ⟨b, by simpa using hn⟩
    obtain ⟨t0, rfl⟩ := one 0 c0 (by omega) rfl
    obtain ⟨t1, rfl⟩ := one 1 c1 (by omega) rfl
    obtain ⟨t2, rfl⟩ := one 2 c2 (by omega) rfl
    obtain ⟨t3, rfl⟩ := one 3 c3 (by omega) rfl
    exact ⟨t0, t1, t2, t3, rfl⟩
end
end Go.Proofs.YtopacbmdoognjaaDoor.Open
