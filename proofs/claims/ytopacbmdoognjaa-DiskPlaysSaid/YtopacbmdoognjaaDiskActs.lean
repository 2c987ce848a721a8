/- Acts of stairwelllaw15: how they lie, opened; Light. -/
import Derived.Test.YtopacbmdoognjaaDiskAwake
namespace Go.Proofs.Ytopacbmdoognjaa.Disk
open Go Go.RowKit Go.ChangeShapes Go.WideShapes Frame
structure DAct where
  kind : UInt8
  at_ : Int
  cut : Int
  text : ByteArray
  deriving Inhabited
def DAct.Ok (x : DAct) : Prop := (-9223372036854775808 ≤ x.at_ ∧ x.at_ ≤ 9223372036854775807) ∧ (-9223372036854775808 ≤ x.cut ∧ x.cut ≤ 9223372036854775807) ∧ x.text.size ≤ maxLen
def ActAt (b o : Nat) (x : DAct) (w : World) : Prop :=
  w.cell? ⟨b, o, none⟩ = some (.int .u8 x.kind.toNat) ∧ w.cell? ⟨b, o + 1, none⟩ = some (.int .i64 x.at_) ∧ w.cell? ⟨b, o + 2, none⟩ = some (.int .i64 x.cut) ∧ w.cell? ⟨b, o + 3, none⟩ = some (.string x.text)
/-- A slice of acts, in a block below B. -/
def Acts (B : Nat) (A : Option Addr) (l : List DAct) (w : World) : Prop :=
  0 < l.length → ∃ b off, A = some ⟨b, off, none⟩ ∧ b < B ∧ ∀ i, i < l.length → ActAt b (off + i * 4) (l.getD i default) w
theorem Acts.below {B : Nat} {A : Option Addr} {l : List DAct} {w w' : World} (h : Acts B A l w) (hb : Below B w w') : Acts B A l w' := fun h0 => by
  obtain ⟨b, off, hA, hlt, hi⟩ := h h0
  refine ⟨b, off, hA, hlt, fun i hil => ?_⟩
  obtain ⟨c0, c1, c2, c3⟩ := hi i hil
  have hc := fun o => hb.cell (p := ⟨b, o, none⟩) hlt
  exact ⟨by rw [hc]; exact c0, by rw [hc]; exact c1, by rw [hc]; exact c2, by rw [hc]; exact c3⟩
theorem Acts.more {B B' : Nat} {A : Option Addr} {l : List DAct} {w : World} (h : Acts B A l w) (hB : B ≤ B') : Acts B' A l w := fun h0 => by
  obtain ⟨b, off, hA, hlt, hi⟩ := h h0
  exact ⟨b, off, hA, by omega, hi⟩
theorem take_succ_getD {α : Type} [Inhabited α] (l : List α) (k : Nat) (h : k < l.length) : l.take (k + 1) = l.take k ++ [l.getD k default] := by
  rw [List.take_succ_eq_append_getElem h]; simp [List.getD_eq_getElem?_getD, h]
theorem getD_mem {α : Type} [Inhabited α] (l : List α) (k : Nat) (h : k < l.length) : l.getD k default ∈ l := by
  simp [List.getD_eq_getElem?_getD, h]
theorem mem_getD {α : Type} [Inhabited α] {l : List α} {x : α} (h : x ∈ l) : ∃ i, i < l.length ∧ l.getD i default = x := by
  obtain ⟨i, hi, rfl⟩ := List.getElem_of_mem h
  exact ⟨i, hi, by simp [List.getD_eq_getElem?_getD, hi]⟩
theorem cell_lt {w : World} {a : Addr} {v : Value} (h : w.cell? a = some v) : a.block < w.heap.size := by
  rcases Nat.lt_or_ge a.block w.heap.size with h1 | h1
  · exact h1
  · simp [World.cell?, Array.getElem?_eq_none h1] at h
def lightB (l : List DAct) : Bool := (l.all fun x => decide (x.text.size ≤ 80)) && decide (l.length ≤ 60)
theorem light_iff {l : List DAct} (h : lightB l = true) : l.length ≤ 60 ∧ ∀ x ∈ l, x.text.size ≤ 80 := by
  unfold lightB at h
  simp at h
  exact ⟨h.2, h.1⟩
set_option maxRecDepth 100000 in
set_option maxHeartbeats 1000000 in
theorem Light_calls (A : Option Addr) (c : Nat) (l : List DAct) (w : World) (hA : Acts w.heap.size A l w) (hl : l.length ≤ maxLen) :
    Calls Try.prog 25 #[.slice A l.length c] w fun e w' => e = .returned (.bool (lightB l)) ∧ Below w.heap.size w w' := by
  unfold maxLen at hl
  have HA := Lib.hid hA
  clear hA
  go_enter Try.func25, Try.ntmps25
  go_wp2
  go_loopw [7] (fun i wr => ∃ k : Nat, k ≤ l.length ∧ i = .int .i64 k ∧ Hid (Below w.heap.size w wr) ∧ Hid ((l.take k).all (fun x => decide (x.text.size ≤ 80)) = true)) (fun i _ => l.length - (intOf i).toNat)
  case atStart => exact ⟨0, by omega, rfl, Lib.hid (Below.refl _ _), rfl⟩
  case round =>
    obtain ⟨k, hk, rfl, hB, hP⟩ := hrel
    by_cases hlt : k < l.length
    · obtain ⟨b, off, rfl, hbl, hi⟩ := (HA.out.below hB.out) (by omega)
      obtain ⟨c0, c1, c2, c3⟩ := hi k hlt
      clear hi
      have HT := Lib.hid (take_succ_getD l k hlt)
      have HM := Lib.hid (getD_mem l k hlt)
      generalize l.getD k default = x at *
      by_cases hx : 80 < x.text.size
      · have HE := Lib.hid (show lightB l = false by
          unfold lightB
          rw [Bool.and_eq_false_iff]
          left
          rw [List.all_eq_false]
          exact ⟨x, HM.out, by simp; omega⟩)
        go_wp2
        go_ret
        rw [HE.out]
        exact ⟨rfl, hB.out.alloc hB.out.size _⟩
      · go_wp2
        refine ⟨⟨k + 1, by omega, by go_num, Lib.hid (hB.out.alloc hB.out.size _), Lib.hid ?_⟩, by simp [intOf]; omega⟩
        rw [HT.out, List.all_append, hP.out]
        simp; omega
    · obtain rfl : k = l.length := by omega
      have HE := Lib.hid (show lightB l = decide (l.length ≤ 60) by
        have := hP.out
        rw [List.take_length] at this
        unfold lightB
        rw [this, Bool.true_and])
      go_wp2
      go_ret
      rw [HE.out]
      refine ⟨?_, hB.out⟩
      congr 2
      simp; omega
set_option maxRecDepth 100000 in
theorem open_acts {H : Type} {enc : TypeId × Value → H} {w : World} {base : Nat} {spare : Nat → Bool} {held : Bool} {r : Reach} {b0 : Nat} {v : Value} {d : DataW H} {p : List MemPlace}
    (hv : Value.okWide Try.prog w r b0 37 v) (h : DataW.Trod enc Try.prog w base spare held 37 v d p) :
    ∃ (A : Option Addr) (c : Nat) (l : List DAct), v = .slice A l.length c ∧ l.length ≤ maxLen ∧ Acts w.heap.size A l w ∧ ∀ x ∈ l, x.Ok := by
  obtain ⟨A, len, cap, rfl, hlen, hrow⟩ := Open.open_rows Try.underlying37 Try.underlying42 (by kernel_rfl) (by kernel_rfl) (by decide) hv h
  by_cases h0 : 0 < len
  · obtain ⟨b, off, rfl, hr⟩ := hrow h0
    have hex : ∀ i, i < len → ∃ x : DAct, ActAt b (off + i * 4) x w ∧ x.Ok := fun i hi => by
      obtain ⟨x0, y0, m0, c0, t0⟩ := hr i hi 0 _ rfl
      obtain ⟨x1, y1, m1, c1, t1⟩ := hr i hi 1 _ rfl
      obtain ⟨x2, y2, m2, c2, t2⟩ := hr i hi 2 _ rfl
      obtain ⟨x3, y3, m3, c3, t3⟩ := hr i hi 3 _ rfl
      obtain ⟨k, rfl⟩ := Open.byte_cell Try.underlying5 t0
      obtain ⟨n, rfl, hn⟩ := Open.i64_cell Try.underlying3 t1
      obtain ⟨z, rfl, hz⟩ := Open.i64_cell Try.underlying3 t2
      obtain ⟨s, rfl, hs⟩ := Open.str_cell Try.underlying9 t3
      exact ⟨⟨k, n, z, s⟩, ⟨c0, c1, c2, c3⟩, hn, hz, hs⟩
    obtain ⟨l, rfl, hl⟩ := Open.list_of len _ hex
    refine ⟨_, cap, l, rfl, hlen, fun _ => ⟨b, off, rfl, cell_lt (hl 0 h0).1.1, fun i hi => (hl i hi).1⟩, fun x hx => ?_⟩
    obtain ⟨i, hi, rfl⟩ := mem_getD hx
    exact (hl i hi).2
  · obtain rfl : len = 0 := by omega
    exact ⟨A, cap, [], rfl, Nat.zero_le _, fun h => absurd h (Nat.lt_irrefl 0), fun x hx => by cases hx⟩
end Go.Proofs.Ytopacbmdoognjaa.Disk
