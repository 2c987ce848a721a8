/- The walks of octet.In at a reader of its own block: New, Fail, Raw, Left, Err, End. -/
import Derived.Test.YtopacbmdoognjaaDoorDiskA
import Derived.Test.YtopacbmdoognjaaDoorPlain
import Derived.Test.YtopacbmdoognjaaDoorProg
import Derived.WalkKit
import Derived.WalkSpells
import Derived.WalkLawsBesides
import Derived.Outline
import Derived.Lib.Hide
namespace Go.Proofs.YtopacbmdoognjaaDoor.Oct
open Go Go.RowKit Frame
/-- A reader in block b, in this state. -/
def At (b : Nat) (q : St) (w : World) : Prop := Has b #[.string (bs q.1), .int .i64 q.2] 145 w
theorem At.c0 {b : Nat} {q : St} {w : World} (h : At b q w) : w.cell? ⟨b, 0, none⟩ = some (.string (bs q.1)) := Has.cell h 0
theorem At.c1 {b : Nat} {q : St} {w : World} (h : At b q w) : w.cell? ⟨b, 1, none⟩ = some (.int .i64 q.2) := Has.cell h 1
theorem At.f0 {b : Nat} {q : St} {w : World} (h : At b q w) : w.frozen? ⟨b, 0, none⟩ = false := Has.frozen h 0
theorem At.f1 {b : Nat} {q : St} {w : World} (h : At b q w) : w.frozen? ⟨b, 1, none⟩ = false := Has.frozen h 1
theorem extract_to (l : List UInt8) (n : Nat) : (bs l).extract 0 n = bs (l.take n) := ba_ext (by simp [bs])
theorem extract_from (l : List UInt8) (n : Nat) : (bs l).extract n l.length = bs (l.drop n) := ba_ext (by simp [bs]; exact List.take_of_length_le (by simp))
set_option maxHeartbeats 400000 in
theorem New_calls (s : ByteArray) (w : World) :
    Calls Tryd.prog 75 #[.string s] w fun e w' => e = .returned (.pointer (some ⟨w.heap.size, 0, none⟩)) ∧ w' = w.alloc (.cells #[.string s, .int .i64 0] 145) := by
  go_enter Tryd.func75, Tryd.ntmps75
  go_wp2
  go_ret
  exact ⟨rfl, rfl⟩
set_option maxHeartbeats 1000000 in
theorem Fail_calls (b : Nat) (q : St) (c : Int) (w : World) (h : At b q w) :
    Calls Tryd.prog 112 #[.pointer (some ⟨b, 0, none⟩), .int .i64 c] w fun e w' => e = .returned (.tuple #[]) ∧ At b (fail q c) w' ∧ Only b w w' := by
  obtain ⟨l, x⟩ := q
  have c0 := h.c0
  have c1 := h.c1
  have f0 := h.f0
  have f1 := h.f1
  have HA := Lib.hid h
  clear h
  by_cases h1 : x = 0
  · subst h1
    by_cases h2 : c = 0
    · subst h2
      go_enter Tryd.func112, Tryd.ntmps112
      go_wp2
      go_end0
      exact ⟨rfl, by simpa [fail] using HA.out, Only.refl _ _⟩
    · have h2' : (c != 0) = true := by simpa using h2
      have HC := Lib.hid h2
      clear h2
      go_enter Tryd.func112, Tryd.ntmps112
      go_wp2
      go_end0
      refine ⟨rfl, ?_, ((Only.refl _ _).set _).set _⟩
      have := (HA.out.set (i := 0) (.string ⟨#[]⟩)).set (i := 1) (.int .i64 c)
      rw [show fail (l, 0) c = ([], c) by simp [fail, HC.out]]
      exact this
  · have h1' : (x == 0) = false := by simpa using h1
    have HC := Lib.hid h1
    clear h1
    go_enter Tryd.func112, Tryd.ntmps112
    go_wp2
    go_end0
    exact ⟨rfl, by simpa [fail, HC.out] using HA.out, Only.refl _ _⟩

set_option maxHeartbeats 1000000 in
theorem Raw_calls (b : Nat) (q : St) (n : Int) (hl : q.1.length ≤ maxLen) (w : World) (h : At b q w) :
    Calls Tryd.prog 86 #[.pointer (some ⟨b, 0, none⟩), .int .i64 n] w fun e w' => e = .returned (.string (bs (raw q n).1)) ∧ At b (raw q n).2 w' ∧ Only b w w' := by
  obtain ⟨l, x⟩ := q
  unfold maxLen at hl
  have c0 := h.c0
  have c1 := h.c1
  have f0 := h.f0
  have HA := Lib.hid h
  clear h
  by_cases h1 : x = 0
  · subst h1
    by_cases h2 : n ≤ 0
    · have HR := Lib.hid (show raw (l, 0) n = ([], (l, 0)) by simp [raw, h2])
      go_enter Tryd.func86, Tryd.ntmps86
      go_wp2
      go_ret
      rw [HR.out]
      exact ⟨rfl, HA.out, Only.refl _ _⟩
    · by_cases h3 : (l.length : Int) < n
      · have HR := Lib.hid (show raw (l, 0) n = ([], fail (l, 0) 3) by simp only [raw]; rw [if_neg (by simp; omega), if_pos h3])
        have hsz : (bs l).size = l.length := bs_size l
        go_enter Tryd.func86, Tryd.ntmps86
        go_wp2_with fail
        refine (Fail_calls b _ 3 _ HA.out).mono ?_
        rintro e w1 ⟨rfl, h4, h5⟩
        have H4 := Lib.hid h4
        clear h4
        go_wp2_with fail
        go_ret
        rw [HR.out]
        exact ⟨rfl, H4.out, h5⟩
      · obtain ⟨k, rfl⟩ : ∃ k : Nat, n = (k : Int) := ⟨n.toNat, by omega⟩
        have HR := Lib.hid (show raw (l, 0) (k : Int) = (l.take k, (l.drop k, 0)) by simp only [raw]; rw [if_neg (by simp; omega), if_neg h3]; simp)
        have hsz : (bs l).size = l.length := bs_size l
        have hk : k ≤ l.length := by omega
        go_enter Tryd.func86, Tryd.ntmps86
        go_wp2_with fail
        go_ret
        rw [HR.out]
        have := HA.out.set (i := 0) (.string (bs (l.drop k)))
        refine ⟨by rw [← extract_to]; rfl, ?_, ?_⟩
        · rw [extract_from]; show Has _ _ _ _; simpa using this
        · exact (Only.refl _ _).set _
  · have h1' : (x == 0) = false := by simpa using h1
    have h1'' : (x != 0) = true := by simpa using h1
    have HR := Lib.hid (show raw (l, x) n = ([], (l, x)) by simp [raw, h1])
    clear h1
    go_enter Tryd.func86, Tryd.ntmps86
    go_wp2
    go_ret
    rw [HR.out]
    exact ⟨rfl, HA.out, Only.refl _ _⟩

set_option maxHeartbeats 1000000 in
theorem Err_calls (b : Nat) (q : St) (w : World) (h : At b q w) :
    Calls Tryd.prog 78 #[.pointer (some ⟨b, 0, none⟩)] w fun e w' => e = .returned (.int .i64 q.2) ∧ w = w' := by
  have c1 := h.c1
  clear h
  go_enter Tryd.func78, Tryd.ntmps78
  go_wp2
  go_ret
  exact ⟨rfl, rfl⟩
end Go.Proofs.YtopacbmdoognjaaDoor.Oct
