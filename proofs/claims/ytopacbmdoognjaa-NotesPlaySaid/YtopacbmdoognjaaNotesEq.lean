/- The walks of slices.Equal of notes and notes.Same. -/
import Derived.Test.YtopacbmdoognjaaNotesNumbers
import Derived.Test.YtopacbmdoognjaaNotesOpen2
namespace Go.Proofs.Ytopacbmdoognjaa.Not
open Go Go.RowKit Frame
theorem Nt.ext' {x y : Nt} (h1 : x.tick = y.tick) (h2 : x.kind = y.kind) (h3 : x.text = y.text) : x = y := by
  cases x; cases y; simp at h1 h2 h3; subst h1; subst h2; subst h3; rfl
theorem ext_getD (a b : List Nt) (h : a.length = b.length) (hi : ∀ i, i < a.length → a.getD i default = b.getD i default) : a = b := by
  apply List.ext_getElem h
  intro i h1 h2
  have := hi i h1
  simpa [List.getD_eq_getElem?_getD, h1, h2] using this
theorem text_ne {a b : ByteArray} (h : a ≠ b) : ¬ a.toList = b.toList := fun e => h (by
  rw [ByteArray.toList_eq, ByteArray.toList_eq] at e
  exact Oct.ba_ext e)
noncomputable def same (l m : List Nt) : Bool := @decide (l = m) (Classical.propDecidable _)
theorem same_true {l m : List Nt} (h : l = m) : same l m = true := by unfold same; simp [h]
theorem same_false {l m : List Nt} (h : l ≠ m) : same l m = false := by unfold same; simp [h]
theorem same_iff (l m : List Nt) : same l m = true ↔ l = m := by unfold same; simp
/-- Two notes that are not alike: in which field first. -/
theorem Nt.apart {x y : Nt} (h : x ≠ y) : (¬ (x.tick : Int) = (y.tick : Int)) ∨ (x.tick = y.tick ∧ ¬ (x.kind.toNat : Int) = (y.kind.toNat : Int)) ∨ (x.tick = y.tick ∧ x.kind = y.kind ∧ ¬ x.text.toList = y.text.toList) := by
  by_cases h1 : x.tick = y.tick
  · by_cases h2 : x.kind = y.kind
    · exact .inr (.inr ⟨h1, h2, text_ne fun e => h (Nt.ext' h1 h2 e)⟩)
    · exact .inr (.inl ⟨h1, fun e => h2 (UInt8.toNat_inj.1 (by omega))⟩)
  · exact .inl fun e => h1 (by omega)
set_option maxRecDepth 100000 in
set_option maxHeartbeats 800000 in
theorem Equal_calls (A B : Option Addr) (c d : Nat) (a b : List Nt) (ha : a.length ≤ maxLen) (hb : b.length ≤ maxLen) (w : World) (hA : Nts A a w) (hB : Nts B b w) :
    Calls Try.prog 87 #[.slice A a.length c, .slice B b.length d] w fun e w' => e = .returned (.bool (same a b)) ∧ Below w.heap.size w w' := by
  unfold maxLen at ha hb
  have HA := Lib.hid hA
  have HBB := Lib.hid hB
  clear hA hB
  by_cases hlen : a.length = b.length
  · go_enter Try.func87, Try.ntmps87
    have hle' : ((a.length : Int) != (b.length : Int)) = false := by simp [hlen]
    have HL := Lib.hid hlen
    clear hlen
    go_wp2_with fail
    go_loopw [13] (fun i wr => ∃ k : Nat, k ≤ a.length ∧ i = .int .i64 k ∧ Hid (Below w.heap.size w wr) ∧ Hid (∀ i, i < k → a.getD i default = b.getD i default)) (fun i _ => a.length - (intOf i).toNat)
    case atStart => exact ⟨0, by omega, rfl, Lib.hid (Below.refl _ _), Lib.hid (fun i h => absurd h (Nat.not_lt_zero i))⟩
    case round =>
      obtain ⟨k, hk, rfl, hW, hP⟩ := hrel
      by_cases hlt : k < a.length
      · have hlb : k < b.length := by have := HL.out; omega
        obtain ⟨g, o, rfl, hg, hi⟩ := (HA.out.below hW.out) (by omega)
        obtain ⟨g', o', rfl, hg', hi'⟩ := (HBB.out.below hW.out) (by omega)
        obtain ⟨c0, c1, c2⟩ := hi k hlt
        obtain ⟨d0, d1, d2⟩ := hi' k hlb
        clear hi hi'
        by_cases he : a.getD k default = b.getD k default
        · have hP2 := Lib.hid (show ∀ i, i < k + 1 → a.getD i default = b.getD i default from fun i h => by
            rcases Nat.lt_succ_iff_lt_or_eq.1 h with h | rfl
            · exact hP.out i h
            · exact he)
          rw [← he] at d0 d1 d2
          clear he
          generalize a.getD k default = x at *
          go_wp2_with fail
          go_region
          go_wp2_with fail
          exact ⟨⟨k + 1, by omega, by go_num, Lib.hid hW.out.drew, hP2⟩, by simp [intOf]; omega⟩
        · have hE := Lib.hid (show same a b = false from same_false (fun e => he (by rw [e])))
          have hq := Nt.apart he
          clear he
          generalize a.getD k default = x at *
          generalize b.getD k default = y at *
          rcases hq with hq | ⟨q1, hq⟩ | ⟨q1, q2, hq⟩
          · go_wp2_with fail
            go_region
            go_wp2_with fail
            go_ret
            rw [hE.out]
            exact ⟨rfl, hW.out.drew⟩
          · rw [q1] at c0
            clear q1
            go_wp2_with fail
            go_region
            go_wp2_with fail
            go_ret
            rw [hE.out]
            exact ⟨rfl, hW.out.drew⟩
          · rw [q1] at c0
            rw [q2] at c1
            clear q1 q2
            go_wp2_with fail
            go_region
            go_wp2_with fail
            go_ret
            rw [hE.out]
            exact ⟨rfl, hW.out.drew⟩
      · obtain rfl : k = a.length := by omega
        have hE := Lib.hid (show same a b = true from same_true (ext_getD a b HL.out hP.out))
        go_wp2_with fail
        go_ret
        rw [hE.out]
        exact ⟨rfl, hW.out⟩
  · have hE := Lib.hid (show same a b = false from same_false (fun e => hlen (by rw [e])))
    have hle' : ((a.length : Int) != (b.length : Int)) = true := by simp; omega
    go_enter Try.func87, Try.ntmps87
    go_wp2_with fail
    go_ret
    rw [hE.out]
    exact ⟨rfl, Below.refl _ _⟩
theorem Same_calls (t u : Nat) (v v' : Value) (a b : List Nt) (ha : a.length ≤ maxLen) (hb : b.length ≤ maxLen) (w : World) (hA : NS v a w) (hB : NS v' b w) :
    Calls Try.prog 67 #[.agg #[.int .u64 (t : Int), v], .agg #[.int .u64 (u : Int), v']] w fun e w' => e = .returned (.bool (decide (t = u) && same a b)) ∧ Below w.heap.size w w' := by
  have hb2 := (((Below.refl w.heap.size w).alloc (by simp) (.cells #[.int .u64 (t : Int), v] 74)).alloc (by simp) (.cells #[.int .u64 (u : Int), v'] 74))
  have B2 := Lib.hid hb2
  obtain ⟨A, c, rfl, -, hA⟩ := hA.below hb2
  obtain ⟨A', c', rfl, -, hB⟩ := hB.below hb2
  have HE := Lib.hid (Equal_calls A A' c c' a b ha hb _ hA hB)
  clear hA hB hb2
  by_cases h : t = u
  · subst h
    go_enter Try.func67, Try.ntmps67
    go_wp2_with fail
    refine HE.out.mono ?_
    rintro e w1 ⟨rfl, b1⟩
    have B3 := Lib.hid (bthen B2.out b1)
    clear b1
    go_wp2_with fail
    go_ret
    exact ⟨by simp, B3.out⟩
  · have h' : ((t : Int) == (u : Int)) = false := by simp; omega
    have HD := Lib.hid (show decide (t = u) = false from decide_eq_false h)
    clear h
    go_enter Try.func67, Try.ntmps67
    go_wp2_with fail
    go_ret
    rw [HD.out]
    exact ⟨rfl, B2.out⟩
end Go.Proofs.Ytopacbmdoognjaa.Not
