/- The walks of disk.Disk.Arm and Up, and Lasts. -/
import Derived.Test.YtopacbmdoognjaaDoorDiskWrite
namespace Go.Proofs.YtopacbmdoognjaaDoor.Disk
open Go Go.RowKit Frame
def armed (s : DSt) (n c : Int) : DSt := if s.on then { s with armed := true, syncs := max 0 n, cut := max 0 c } else s
def upped (s : DSt) : DSt := if s.on then s else { s with on := true, armed := false, syncs := 0, cut := 0 }
section
variable {base d L : Nat} {wv : Value} {s : DSt} {w : World}
/-- Cells of the disk's own block are stored into, none of the first two. -/
theorem Dk.stored (h : Dk base d L wv s w) {s' : DSt} {w' : World} (hl : s'.last = s.last) (hw : s'.wait = s.wait)
    (hh : Has d #[.slice (some ⟨L, 0, none⟩) s.last.length s.last.length, wv, .bool s'.on, .bool s'.armed, .int .i64 s'.syncs, .int .i64 s'.cut] 134 w') (ho : Only d w w') : Dk base d L wv s' w' := by
  obtain ⟨hdL, hne1, hne2⟩ := h.ne
  refine ⟨by rw [hl]; exact hh, by rw [hl]; exact h.l.only ho hdL.symm, ?_, h.ne, h.hb⟩
  rw [hw]
  obtain ⟨hlen, hv⟩ := h.v
  refine ⟨hlen, ?_⟩
  rcases hv with hv | ⟨g, cap, cur, rfl, hb, hg, hr⟩
  · exact .inl hv
  · refine .inr ⟨g, cap, cur, rfl, hb, (ho.block g (Has.lt (cs := cur) hg) ?_).trans hg, hr⟩
    rintro rfl
    exact hne1 rfl
end
set_option maxHeartbeats 1000000 in
theorem Arm_calls (base d L : Nat) (wv : Value) (s : DSt) (n c : Int) (w : World) (h : Dk base d L wv s w) :
    Calls Tryd.prog 71 #[.pointer (some ⟨d, 0, none⟩), .int .i64 n, .int .i64 c] w fun e w' => e = .returned (.tuple #[]) ∧ Dk base d L wv (armed s n c) w' ∧ Only d w w' := by
  have c2 := h.c2
  have f3 := h.h.frozen 3
  have f4 := h.h.frozen 4
  have f5 := h.h.frozen 5
  have c3 := h.c3
  have c4 := h.c4
  have c5 := h.c5
  have H := Lib.hid h
  clear h
  cases ho : s.on with
  | false =>
    have HE := Lib.hid (show armed s n c = s by simp [armed, ho])
    rw [ho] at c2
    clear ho
    go_enter Tryd.func71, Tryd.ntmps71
    go_wp2_with fail
    go_end0
    exact ⟨rfl, by rw [HE.out]; exact H.out, Only.refl _ _⟩
  | true =>
    have HF := Lib.hid (show ∀ N C : Int, N = max 0 n → C = max 0 c → Dk base d L wv (armed s n c) (((w.setCell ⟨d, 3, none⟩ (.bool true)).setCell ⟨d, 4, none⟩ (.int .i64 N)).setCell ⟨d, 5, none⟩ (.int .i64 C)) from fun N C hN hC => by
      rw [show armed s n c = { s with armed := true, syncs := N, cut := C } by simp [armed, ho, hN, hC]]
      refine H.out.stored rfl rfl ?_ ((((Only.refl _ _).set _).set _).set _)
      have := ((H.out.h.set (i := 3) (.bool true)).set (i := 4) (.int .i64 N)).set (i := 5) (.int .i64 C)
      simpa using this)
    rw [ho] at c2
    clear ho
    go_enter Tryd.func71, Tryd.ntmps71
    go_wp2_with fail
    all_goals
      go_end0
      first
        | exact ⟨rfl, HF.out n c (by omega) (by omega), (((Only.refl _ _).set _).set _).set _⟩
        | exact ⟨rfl, HF.out n 0 (by omega) (by omega), (((Only.refl _ _).set _).set _).set _⟩
        | exact ⟨rfl, HF.out 0 c (by omega) (by omega), (((Only.refl _ _).set _).set _).set _⟩
        | exact ⟨rfl, HF.out 0 0 (by omega) (by omega), (((Only.refl _ _).set _).set _).set _⟩
end Go.Proofs.YtopacbmdoognjaaDoor.Disk
