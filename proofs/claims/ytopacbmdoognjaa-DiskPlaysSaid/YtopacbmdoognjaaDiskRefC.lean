/- The walks of the document's disk: Put, Down, Sync, Arm, Up. -/
import Derived.Test.YtopacbmdoognjaaDiskRefB
namespace Go.Proofs.Ytopacbmdoognjaa.Disk
open Go Go.RowKit Frame
def RPost (s' : DSt) (w : World) (e : Ending) (w' : World) : Prop := ∃ v', e = .returned (RD s' v') ∧ RW v' s'.wait w' ∧ Below w.heap.size w w'
def RPost2 (s' : DSt) (r : Int) (w : World) (e : Ending) (w' : World) : Prop := ∃ v', e = .returned (.tuple #[RD s' v', .int .i64 r]) ∧ RW v' s'.wait w' ∧ Below w.heap.size w w'
theorem infoRW : (Try.prog.info? 127).map (fun i => (i.zero, i.size, i.bytes)) = some (some (.agg #[.int .i64 0, .string ⟨#[]⟩]), 2, 24) := by kernel_rfl
def rdown (s : DSt) (c : Int) : DSt := if s.on then ⟨done s.last s.wait c, [], false, false, 0, 0⟩ else s
def rup (s : DSt) : DSt := if s.on then s else ⟨s.last, [], true, false, 0, 0⟩
theorem below2 (w : World) (o1 o2 : Obj) : Below w.heap.size w ((w.alloc o1).alloc o2) := ((Below.refl _ _).alloc (Nat.le_refl _) _).alloc (by simp) _
def zeroR : Array Value := #[.string { data := #[] }, .slice none 0 0, .bool false, .bool false, .int .i64 0, .int .i64 0]
set_option maxHeartbeats 1000000 in
theorem rUp_calls (s : DSt) (v : Value) (w : World) (hr : RW v s.wait w) :
    Calls Try.prog 82 #[RD s v] w (RPost (rup s) w) := by
  obtain ⟨A, cap, rfl, -⟩ := hr.row
  have HR := Lib.hid hr
  clear hr
  unfold RD
  rcases (Bool.eq_false_or_eq_true s.on).symm with ho | ho
  · have HE := Lib.hid (show rup s = ⟨s.last, [], true, false, 0, 0⟩ by simp [rup, ho])
    rw [ho]
    clear ho
    go_enter Try.func82, Try.ntmps82
    go_wp2_with fail
    refine bodyPost_ret (v := RD ⟨s.last, [], true, false, 0, 0⟩ (.slice none 0 0)) (by simp [results, Try.results82, go_sem, RD]) rfl ?_
    rw [HE.out]
    exact ⟨_, rfl, RW.nil _, below2 _ _ _⟩
  · have HE := Lib.hid (show rup s = s by simp [rup, ho])
    have HO := Lib.hid ho
    rw [ho]
    clear ho
    go_enter Try.func82, Try.ntmps82
    go_wp2_with fail
    refine bodyPost_ret (v := RD s (.slice A s.wait.length cap)) (by simp [results, Try.results82, go_sem, RD, HO.out]) rfl ?_
    rw [HE.out]
    exact ⟨_, rfl, HR.out.below (below2 _ _ _), below2 _ _ _⟩
set_option maxHeartbeats 1000000 in
theorem rArm_calls (s : DSt) (v : Value) (n c : Int) (w : World) (hr : RW v s.wait w) :
    Calls Try.prog 80 #[RD s v, .int .i64 n, .int .i64 c] w (RPost (armed s n c) w) := by
  obtain ⟨A, cap, rfl, -⟩ := hr.row
  have HR := Lib.hid hr
  clear hr
  unfold RD
  rcases (Bool.eq_false_or_eq_true s.on).symm with ho | ho
  · have HE := Lib.hid (show armed s n c = s by simp [armed, ho])
    have HO := Lib.hid ho
    rw [ho]
    clear ho
    go_enter Try.func80, Try.ntmps80
    go_wp2_with fail
    refine bodyPost_ret (v := RD s (.slice A s.wait.length cap)) (by simp [results, Try.results80, go_sem, RD, HO.out]) rfl ?_
    rw [HE.out]
    exact ⟨_, rfl, HR.out.below (below2 _ _ _), below2 _ _ _⟩
  · obtain ⟨N, hN⟩ : ∃ N : Int, max n 0 = N := ⟨_, rfl⟩
    obtain ⟨C, hC⟩ : ∃ C : Int, max c 0 = C := ⟨_, rfl⟩
    have HE := Lib.hid (show armed s n c = ⟨s.last, s.wait, s.on, true, N, C⟩ by
      have h1 : max 0 n = N := by omega
      have h2 : max 0 c = C := by omega
      simp [armed, ho, h1, h2])
    have HO := Lib.hid ho
    rw [ho]
    clear ho
    go_enter Try.func80, Try.ntmps80
    go_wp2_with fail
    refine bodyPost_ret (v := RD ⟨s.last, s.wait, s.on, true, N, C⟩ (.slice A s.wait.length cap)) (by simp [results, Try.results80, go_sem, RD, HO.out]) rfl ?_
    rw [HE.out]
    exact ⟨_, rfl, HR.out.below (below2 _ _ _), below2 _ _ _⟩
set_option maxHeartbeats 1000000 in
theorem rDown_calls (n : Nat) (s : DSt) (v : Value) (c : Int) (hc : -9223372036854775808 ≤ c ∧ c ≤ 9223372036854775807) (hs : Good n s) (w : World) (hr : RW v s.wait w) :
    Calls Try.prog 81 #[RD s v, .int .i64 c] w (RPost (rdown s c) w) := by
  obtain ⟨A, cap, rfl, -⟩ := hr.row
  have HR := Lib.hid hr
  clear hr
  rcases (Bool.eq_false_or_eq_true s.on).symm with ho | ho
  · have HE := Lib.hid (show rdown s c = s by simp [rdown, ho])
    have HO := Lib.hid ho
    unfold RD
    rw [ho]
    clear ho
    go_enter Try.func81, Try.ntmps81
    go_wp2_with fail
    refine bodyPost_ret (v := RD s (.slice A s.wait.length cap)) (by simp [results, Try.results81, go_sem, RD, HO.out]) rfl ?_
    rw [HE.out]
    exact ⟨_, rfl, HR.out.below (below2 _ _ _), below2 _ _ _⟩
  · have HE := Lib.hid (show rdown s c = ⟨done s.last s.wait c, [], false, false, 0, 0⟩ by simp [rdown, ho])
    have HD := Lib.hid (fun W h => Done_calls n s (.slice A s.wait.length cap) c hc hs.fits hs.many hs.len hs.hn W h)
    have HB := Lib.hid (below2 w (.cells (RCells s (.slice A s.wait.length cap)) 63) (.cells zeroR 63))
    have HR2 := Lib.hid (HR.out.below HB.out)
    have hn2 : Has (w.heap.size + 1) zeroR 63 ((w.alloc (.cells (RCells s (.slice A s.wait.length cap)) 63)).alloc (.cells zeroR 63)) := by
      have := Has.new (w.alloc (.cells (RCells s (.slice A s.wait.length cap)) 63)) zeroR 63
      simpa using this
    have HN := Lib.hid hn2
    clear hn2
    unfold RD RCells zeroR at *
    rw [ho] at HD HB HR2 HN ⊢
    clear ho
    go_enter Try.func81, Try.ntmps81
    go_wp2_with fail
    refine (HD.out _ HR2.out).mono ?_
    rintro e w2 ⟨rfl, b2⟩
    have hn := HN.out.below b2
    have f := hn.frozen
    have c0 := hn.cell 0
    have c1 := hn.cell 1
    have c2 := hn.cell 2
    have c3 := hn.cell 3
    have c4 := hn.cell 4
    have c5 := hn.cell 5
    have hz := hn.lt
    have B := Lib.hid (bthen HB.out b2)
    clear b2 hn
    go_wp2_with fail
    refine bodyPost_ret (v := RD ⟨done s.last s.wait c, [], false, false, 0, 0⟩ (.slice none 0 0)) (by simp [results, Try.results81, go_sem, RD, c0, c1, c2, c3, c4, c5]) rfl ?_
    rw [HE.out]
    exact ⟨_, rfl, RW.nil _, below6 B.out (by omega) _ _ _ _ _ _⟩
end Go.Proofs.Ytopacbmdoognjaa.Disk
