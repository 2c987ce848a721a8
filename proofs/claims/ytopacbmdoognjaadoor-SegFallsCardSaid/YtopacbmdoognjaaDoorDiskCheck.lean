/- The walks of disk.Disk: Blocks, check, On, Waits, Lasts. -/
import Derived.Test.YtopacbmdoognjaaDoorDiskWalk
import Derived.Deep.QuietTactic
import Derived.BigQuiet
import Derived.Laws.BytesArg
namespace Go.Proofs.YtopacbmdoognjaaDoor.Disk
open Go Go.RowKit Frame
def chk (s : DSt) (k : Int) : Int := if s.on = false then 16 else if k < 0 ∨ (s.last.length : Int) / 64 ≤ k then 7 else 0
section
variable {base d L : Nat} {wv : Value} {s : DSt} {w : World}
theorem Dk.c0 (h : Dk base d L wv s w) : w.cell? ⟨d, 0, none⟩ = some (.slice (some ⟨L, 0, none⟩) s.last.length s.last.length) := h.h.cell 0
theorem Dk.c1 (h : Dk base d L wv s w) : w.cell? ⟨d, 1, none⟩ = some wv := h.h.cell 1
theorem Dk.c2 (h : Dk base d L wv s w) : w.cell? ⟨d, 2, none⟩ = some (.bool s.on) := h.h.cell 2
theorem Dk.c3 (h : Dk base d L wv s w) : w.cell? ⟨d, 3, none⟩ = some (.bool s.armed) := h.h.cell 3
theorem Dk.c4 (h : Dk base d L wv s w) : w.cell? ⟨d, 4, none⟩ = some (.int .i64 s.syncs) := h.h.cell 4
theorem Dk.c5 (h : Dk base d L wv s w) : w.cell? ⟨d, 5, none⟩ = some (.int .i64 s.cut) := h.h.cell 5
end
set_option maxHeartbeats 1000000 in
theorem Blocks_calls (base d L : Nat) (wv : Value) (s : DSt) (hl : s.last.length ≤ 262144) (w : World) (h : Dk base d L wv s w) :
    Calls Tryd.prog 103 #[.pointer (some ⟨d, 0, none⟩)] w fun e w' => e = .returned (.int .i64 ((s.last.length : Int) / 64)) ∧ w = w' := by
  have c0 := h.c0
  clear h
  go_enter Tryd.func103, Tryd.ntmps103
  go_wp2
  go_ret
  exact ⟨rfl, rfl⟩
set_option maxHeartbeats 1000000 in
theorem On_calls (base d L : Nat) (wv : Value) (s : DSt) (w : World) (h : Dk base d L wv s w) :
    Calls Tryd.prog 102 #[.pointer (some ⟨d, 0, none⟩)] w fun e w' => e = .returned (.bool s.on) ∧ w = w' := by
  have c2 := h.c2
  clear h
  go_enter Tryd.func102, Tryd.ntmps102
  go_wp2
  go_ret
  exact ⟨rfl, rfl⟩
set_option maxHeartbeats 1000000 in
theorem check_calls (base d L : Nat) (wv : Value) (s : DSt) (k : Int) (hl : s.last.length ≤ 262144) (w : World) (h : Dk base d L wv s w) :
    Calls Tryd.prog 99 #[.pointer (some ⟨d, 0, none⟩), .int .i64 k] w fun e w' => e = .returned (.int .i64 (chk s k)) ∧ w = w' := by
  have c2 := h.c2
  cases ho : s.on with
  | false =>
    rw [ho] at c2
    have HE := Lib.hid (show chk s k = 16 by unfold chk; rw [if_pos ho])
    clear h ho
    go_enter Tryd.func99, Tryd.ntmps99
    go_wp2
    go_ret
    rw [HE.out]
    exact ⟨rfl, rfl⟩
  | true =>
    rw [ho] at c2
    by_cases h1 : k < 0
    · have HE := Lib.hid (show chk s k = 7 by unfold chk; rw [if_neg (by simp [ho]), if_pos (Or.inl h1)])
      clear h ho
      go_enter Tryd.func99, Tryd.ntmps99
      go_wp2_with fail
      go_ret
      rw [HE.out]
      exact ⟨rfl, rfl⟩
    · by_cases h2 : (s.last.length : Int) / 64 ≤ k
      · have HE := Lib.hid (show chk s k = 7 by unfold chk; rw [if_neg (by simp [ho]), if_pos (Or.inr h2)])
        clear ho
        go_enter Tryd.func99, Tryd.ntmps99
        go_wp2_with fail
        refine (Blocks_calls base d L wv s hl _ h).mono ?_
        rintro e w1 ⟨rfl, rfl⟩
        go_wp2_with fail
        go_ret
        rw [HE.out]
        exact ⟨rfl, rfl⟩
      · have HE := Lib.hid (show chk s k = 0 by unfold chk; rw [if_neg (by simp [ho]), if_neg (by omega)])
        clear ho
        go_enter Tryd.func99, Tryd.ntmps99
        go_wp2_with fail
        refine (Blocks_calls base d L wv s hl _ h).mono ?_
        rintro e w1 ⟨rfl, rfl⟩
        go_wp2_with fail
        go_ret
        rw [HE.out]
        exact ⟨rfl, rfl⟩
end Go.Proofs.YtopacbmdoognjaaDoor.Disk
