/- Items of stairwelllaw01: how they lie; light, written. -/
import Derived.Test.YtopacbmdoognjaaOctAwake
import Derived.Test.YtopacbmdoognjaaOctRef
import Derived.Test.YtopacbmdoognjaaOpen
namespace Go.Proofs.Ytopacbmdoognjaa.Oct
open Go Go.RowKit Frame
structure Item where
  kind : UInt8
  num : Nat
  bytes : Int
  text : ByteArray
  deriving Inhabited
/-- An item within what its types bear. -/
def Item.Ok (x : Item) : Prop := x.num < 18446744073709551616 ∧ (-9223372036854775808 ≤ x.bytes ∧ x.bytes ≤ 9223372036854775807) ∧ x.text.size ≤ maxLen
def ItemAt (b o : Nat) (x : Item) (w : World) : Prop :=
  w.cell? ⟨b, o, none⟩ = some (.int .u8 x.kind.toNat) ∧ w.cell? ⟨b, o + 1, none⟩ = some (.int .u64 x.num) ∧ w.cell? ⟨b, o + 2, none⟩ = some (.int .i64 x.bytes) ∧ w.cell? ⟨b, o + 3, none⟩ = some (.string x.text)
def Items (A : Option Addr) (l : List Item) (w : World) : Prop :=
  0 < l.length → ∃ b off, A = some ⟨b, off, none⟩ ∧ b < w.heap.size ∧ ∀ i, i < l.length → ItemAt b (off + i * 4) (l.getD i default) w
theorem Items.below {A : Option Addr} {l : List Item} {w w' : World} (h : Items A l w) (hb : Below w.heap.size w w') : Items A l w' := fun h0 => by
  obtain ⟨b, off, hA, hlt, hi⟩ := h h0
  refine ⟨b, off, hA, Nat.lt_of_lt_of_le hlt hb.size, fun i hil => ?_⟩
  obtain ⟨c0, c1, c2, c3⟩ := hi i hil
  obtain ⟨hc, _⟩ := bcell hb
  exact ⟨by rw [hc _ _ hlt]; exact c0, by rw [hc _ _ hlt]; exact c1, by rw [hc _ _ hlt]; exact c2, by rw [hc _ _ hlt]; exact c3⟩
theorem take_succ_getD {α : Type} [Inhabited α] (l : List α) (k : Nat) (h : k < l.length) : l.take (k + 1) = l.take k ++ [l.getD k default] := by
  rw [List.take_succ_eq_append_getElem h]; simp [List.getD_eq_getElem?_getD, h]
theorem getD_mem {α : Type} [Inhabited α] (l : List α) (k : Nat) (h : k < l.length) : l.getD k default ∈ l := by
  simp [List.getD_eq_getElem?_getD, h]
def lightB (l : List Item) : Bool := decide (l.length ≤ 20) && l.all fun x => decide (x.text.size ≤ 100)
set_option maxRecDepth 100000 in
set_option maxHeartbeats 1000000 in
theorem light_calls (A : Option Addr) (c : Nat) (l : List Item) (w : World) (hA : Items A l w) (hl : l.length ≤ maxLen) :
    Calls Try.prog 17 #[.slice A l.length c] w fun e w' => e = .returned (.bool (lightB l)) ∧ Below w.heap.size w w' := by
  unfold maxLen at hl
  by_cases h20 : 20 < l.length
  · have HE := Lib.hid (show lightB l = false by unfold lightB; rw [decide_eq_false (by omega)]; rfl)
    go_enter Try.func17, Try.ntmps17
    go_wp2
    go_ret
    rw [HE.out]
    exact ⟨rfl, Below.refl _ _⟩
  · have HA := Lib.hid hA
    clear hA
    go_enter Try.func17, Try.ntmps17
    go_wp2
    go_loopw [10] (fun i wr => ∃ k : Nat, k ≤ l.length ∧ i = .int .i64 k ∧ Hid (Below w.heap.size w wr) ∧ Hid ((l.take k).all (fun x => decide (x.text.size ≤ 100)) = true)) (fun i _ => l.length - (intOf i).toNat)
    case atStart => exact ⟨0, by omega, rfl, Lib.hid (Below.refl _ _), rfl⟩
    case round =>
      obtain ⟨k, hk, rfl, hB, hP⟩ := hrel
      by_cases hlt : k < l.length
      · obtain ⟨b, off, rfl, hbl, hi⟩ := (HA.out.below hB.out) (by omega)
        obtain ⟨c0, c1, c2, c3⟩ := hi k hlt
        clear hi
        have HT := Lib.hid (take_succ_getD l k hlt)
        have HM := Lib.hid (getD_mem l k hlt)
        generalize l.getD k default = x at *
        by_cases hx : 100 < x.text.size
        · have HE := Lib.hid (show lightB l = false by
            unfold lightB
            rw [Bool.and_eq_false_iff]
            right
            rw [List.all_eq_false]
            exact ⟨x, HM.out, by simp; omega⟩)
          go_wp2
          go_ret
          rw [HE.out]
          exact ⟨rfl, hB.out.alloc hB.out.size _⟩
        · go_wp2
          refine ⟨⟨k + 1, by omega, by go_num, Lib.hid (hB.out.alloc hB.out.size _), Lib.hid ?_⟩, by simp [intOf]; omega⟩
          rw [HT.out, List.all_append, hP.out]
          simp; omega
      · obtain rfl : k = l.length := by omega
        have HE := Lib.hid (show lightB l = true by
          have := hP.out
          rw [List.take_length] at this
          unfold lightB
          rw [this, decide_eq_true (by omega)]
          rfl)
        go_wp2
        go_ret
        rw [HE.out]
        exact ⟨rfl, hB.out⟩
/-- The bytes of items, one behind the other. -/
def item (x : Item) : List UInt8 := if x.kind = 0 then be (wid x.bytes) x.num else if x.kind = 1 then txt x.text.data.toList else x.text.data.toList
def items (l : List Item) : List UInt8 := l.flatMap item
theorem item_le (x : Item) (h : x.text.size ≤ 100) : (item x).length ≤ 200 := by
  unfold item txt
  have hs : x.text.data.toList.length = x.text.size := by simp
  split
  · rw [be_length]; have := wid_le x.bytes; omega
  · split
    · rw [List.length_append, be_length]; omega
    · omega
theorem items_le (l : List Item) (h : ∀ x ∈ l, x.text.size ≤ 100) : (items l).length ≤ 200 * l.length := by
  induction l with
  | nil => simp [items]
  | cons x l ih =>
    have h1 := item_le x (h x (by simp))
    have h2 := ih fun y hy => h y (by simp [hy])
    simp only [items, List.flatMap_cons, List.length_append, List.length_cons] at *
    omega
theorem items_snoc (l : List Item) (x : Item) : items (l ++ [x]) = items l ++ item x := by simp [items]
theorem light_iff {l : List Item} (h : lightB l = true) : l.length ≤ 20 ∧ ∀ x ∈ l, x.text.size ≤ 100 := by
  unfold lightB at h
  simpa using h
end Go.Proofs.Ytopacbmdoognjaa.Oct
